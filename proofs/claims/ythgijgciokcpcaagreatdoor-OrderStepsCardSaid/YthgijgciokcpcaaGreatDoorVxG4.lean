/- Part 4 of the proof. What is proved: symbolic execution of the functions, proved sound; what each function of the program computes, and that every run ends with it; what these functions compute, in plain numbers. Conditions: each theorem bears its own. -/
import Derived.Test.YthgijgciokcpcaaGreatDoorVxG3
import Derived.Test.YthgijgciokcpcaaGreatDoorProg
set_option linter.all false
set_option exponentiation.threshold 1000000
namespace Vx
open Go Go.Proofs
abbrev rowsSh : Shape := .pair (.int .i64) (.pair (.int .i64) (.pair (.int .i64) (.pair (.int .i64) .unit)))
def k_rows : List (Den rowsSh) := [(16,11,-14,15,()), (16,8,-126,127,()), (32,24,-126,127,()), (64,53,-1022,1023,())]
def k_len8 : List UInt8 := [0, 1, 2, 2, 3, 3, 3, 3, 4, 4, 4, 4, 4, 4, 4, 4, 5, 5, 5, 5, 5, 5, 5, 5, 5, 5, 5, 5, 5, 5, 5, 5, 6, 6, 6, 6, 6, 6, 6, 6, 6, 6, 6, 6, 6, 6, 6, 6, 6, 6, 6, 6, 6, 6, 6, 6, 6, 6, 6, 6, 6, 6, 6, 6, 7, 7, 7, 7, 7, 7, 7, 7, 7, 7, 7, 7, 7, 7, 7, 7, 7, 7, 7, 7, 7, 7, 7, 7, 7, 7, 7, 7, 7, 7, 7, 7, 7, 7, 7, 7, 7, 7, 7, 7, 7, 7, 7, 7, 7, 7, 7, 7, 7, 7, 7, 7, 7, 7, 7, 7, 7, 7, 7, 7, 7, 7, 7, 7, 8, 8, 8, 8, 8, 8, 8, 8, 8, 8, 8, 8, 8, 8, 8, 8, 8, 8, 8, 8, 8, 8, 8, 8, 8, 8, 8, 8, 8, 8, 8, 8, 8, 8, 8, 8, 8, 8, 8, 8, 8, 8, 8, 8, 8, 8, 8, 8, 8, 8, 8, 8, 8, 8, 8, 8, 8, 8, 8, 8, 8, 8, 8, 8, 8, 8, 8, 8, 8, 8, 8, 8, 8, 8, 8, 8, 8, 8, 8, 8, 8, 8, 8, 8, 8, 8, 8, 8, 8, 8, 8, 8, 8, 8, 8, 8, 8, 8, 8, 8, 8, 8, 8, 8, 8, 8, 8, 8, 8, 8, 8, 8, 8, 8, 8, 8, 8, 8, 8, 8, 8, 8, 8, 8, 8, 8, 8, 8]
def k_deb : List (Den (.int .u8)) := [0, 1, 56, 2, 57, 49, 28, 3, 61, 58, 42, 50, 38, 29, 17, 4, 62, 47, 59, 36, 45, 43, 51, 22, 53, 39, 33, 30, 24, 18, 12, 5, 63, 55, 48, 27, 60, 41, 37, 16, 46, 35, 44, 21, 52, 32, 23, 11, 54, 26, 40, 15, 34, 20, 31, 10, 25, 14, 19, 9, 13, 8, 7, 6]
def G1 : List (Nat × Sigma fun τ => List (Den τ)) := [(1, ⟨rowsSh, k_rows⟩), (3, ⟨.int .u8, k_deb⟩)]
theorem mixedOk : Go.Proofs.Tryz.prog.follows .mixedOrders = true := by kernel_rfl
/-- vernier/format.Params -/
abbrev I69 : Sig := [(false, .int .i64)]
abbrev O69 : Sig := [(true, .pair (.int .i64) (.pair (.int .i64) (.pair (.int .i64) (.pair (.int .i64) (.unit))))), (false, .int .i64)]
noncomputable def t69 (a0 : Den (.int .i64)) : Option (DenS O69) :=
  bif ((decide (a0 < (0 : Int))) || (decide (a0 ≥ (4 : Int)))) then
  (some (((0 : Int), ((0 : Int), ((0 : Int), ((0 : Int), ())))), ((2 : Int), ())))
  else bif ((decide ((0 : Int) ≤ a0)) && (decide (a0 < ((4 : Nat) : Int)))) then
  (some ((Vx.k_rows.getD (Int.toNat a0) ((0 : Int), ((0 : Int), ((0 : Int), ((0 : Int), ()))))), ((0 : Int), ())))
  else none
theorem r69 (a0 : Den (.int .i64)) :
    run { P := Go.Proofs.Tryz.prog, sums := [], loops := [], globs := G1 } 9 55 Go.Proofs.Tryz.f55 I69 O69 (a0, ()) = t69 a0 := by kernel_rfl
noncomputable def T69 (x : DenS I69) : Option (DenS O69) := t69 x.1
noncomputable def C69 : Cfg := { P := Go.Proofs.Tryz.prog, sums := [], loops := [], globs := G1 }
noncomputable def S69 : Sum := sumOf I69 O69 T69 (DenS.dflt O69)
theorem S69_sound : Sound Go.Proofs.Tryz.prog G1 55 S69 :=
  fn_sound C69 9 55 Go.Proofs.Tryz.f55 mixedOk (by kernel_rfl) (by kernel_rfl) (by kernel_rfl) trivial trivial I69 O69 T69 _ (fun x => r69 x.1)
/-- vernier/format.Check -/
abbrev I66 : Sig := [(false, .int .i64), (false, .int .u64)]
abbrev O66 : Sig := [(false, .int .i64)]
noncomputable def t66 (p69 : DenS I69 → Bool) (f69 : DenS I69 → DenS O69) (a0 : Den (.int .i64)) (a1 : Den (.int .u64)) : Option (DenS O66) :=
  bif (p69 (a0, ())) then
  (bif ((f69 (a0, ())).2.1 != (0 : Int)) then
  (some (f69 (a0, ())).2)
  else bif ((decide ((0 : Int) ≤ (f69 (a0, ())).1.1)) || (!(decide ((f69 (a0, ())).1.1 < (64 : Int))))) then
  (bif ((decide ((f69 (a0, ())).1.1 < (64 : Int))) && ((Vx.shrI Go.IntKind.u64 a1 (f69 (a0, ())).1.1) != (0 : Int))) then
  (some ((4 : Int), ()))
  else some ((0 : Int), ()))
  else none)
  else none
theorem r66 (p69 : DenS I69 → Bool) (f69 : DenS I69 → DenS O69) (a0 : Den (.int .i64)) (a1 : Den (.int .u64)) :
    run { P := Go.Proofs.Tryz.prog, sums := [(55, ⟨I69, O69, p69, f69⟩)], loops := [], globs := G1 } 9 83 Go.Proofs.Tryz.f83 I66 O66 (a0, a1, ()) = t66 p69 f69 a0 a1 := by kernel_rfl
noncomputable def T66 (x : DenS I66) : Option (DenS O66) := t66 S69.pre S69.F x.1 x.2.1
noncomputable def C66 : Cfg := { P := Go.Proofs.Tryz.prog, sums := [(55, S69)], loops := [], globs := G1 }
noncomputable def S66 : Sum := sumOf I66 O66 T66 (DenS.dflt O66)
theorem S66_sound : Sound Go.Proofs.Tryz.prog G1 83 S66 :=
  fn_sound C66 9 83 Go.Proofs.Tryz.f83 mixedOk (by kernel_rfl) (by kernel_rfl) (by kernel_rfl) ⟨S69_sound, trivial⟩ trivial I66 O66 T66 _ (fun x => r66 S69.pre S69.F x.1 x.2.1)
/-- vernier/format.ones -/
abbrev I91 : Sig := [(false, .int .i64)]
abbrev O91 : Sig := [(false, .int .u64)]
noncomputable def t91 (a0 : Den (.int .i64)) : Option (DenS O91) :=
  bif (decide ((0 : Int) ≤ a0)) then
  (some ((Go.IntKind.wrap Go.IntKind.u64 ((Vx.shlI Go.IntKind.u64 (1 : Int) a0) - (1 : Int))), ()))
  else none
theorem r91 (a0 : Den (.int .i64)) :
    run { P := Go.Proofs.Tryz.prog, sums := [], loops := [], globs := G1 } 9 134 Go.Proofs.Tryz.f134 I91 O91 (a0, ()) = t91 a0 := by kernel_rfl
noncomputable def T91 (x : DenS I91) : Option (DenS O91) := t91 x.1
noncomputable def C91 : Cfg := { P := Go.Proofs.Tryz.prog, sums := [], loops := [], globs := G1 }
noncomputable def S91 : Sum := sumOf I91 O91 T91 (DenS.dflt O91)
theorem S91_sound : Sound Go.Proofs.Tryz.prog G1 134 S91 :=
  fn_sound C91 9 134 Go.Proofs.Tryz.f134 mixedOk (by kernel_rfl) (by kernel_rfl) (by kernel_rfl) trivial trivial I91 O91 T91 _ (fun x => r91 x.1)
/-- vernier/format.split -/
abbrev I90 : Sig := [(true, .pair (.int .i64) (.pair (.int .i64) (.pair (.int .i64) (.pair (.int .i64) (.unit))))), (false, .int .u64)]
abbrev O90 : Sig := [(false, .bool), (false, .int .u64), (false, .int .u64)]
noncomputable def t90 (p91 : DenS I91 → Bool) (f91 : DenS I91 → DenS O91) (a0 : Den (.pair (.int .i64) (.pair (.int .i64) (.pair (.int .i64) (.pair (.int .i64) (.unit)))))) (a1 : Den (.int .u64)) : Option (DenS O90) :=
  bif (decide ((0 : Int) ≤ (Go.IntKind.wrap Go.IntKind.i64 (a0.1 - (1 : Int))))) then
  (bif (decide ((0 : Int) ≤ (Go.IntKind.wrap Go.IntKind.i64 (a0.2.1 - (1 : Int))))) then
  (bif (p91 ((Go.IntKind.wrap Go.IntKind.i64 (a0.1 - a0.2.1)), ())) then
  (bif (p91 ((Go.IntKind.wrap Go.IntKind.i64 (a0.2.1 - (1 : Int))), ())) then
  (some (((Vx.shrI Go.IntKind.u64 a1 (Go.IntKind.wrap Go.IntKind.i64 (a0.1 - (1 : Int)))) != (0 : Int)), ((Vx.andI Go.IntKind.u64 (Vx.shrI Go.IntKind.u64 a1 (Go.IntKind.wrap Go.IntKind.i64 (a0.2.1 - (1 : Int)))) (f91 ((Go.IntKind.wrap Go.IntKind.i64 (a0.1 - a0.2.1)), ())).1), ((Vx.andI Go.IntKind.u64 a1 (f91 ((Go.IntKind.wrap Go.IntKind.i64 (a0.2.1 - (1 : Int))), ())).1), ()))))
  else none)
  else none)
  else none)
  else none
theorem r90 (p91 : DenS I91 → Bool) (f91 : DenS I91 → DenS O91) (a0 : Den (.pair (.int .i64) (.pair (.int .i64) (.pair (.int .i64) (.pair (.int .i64) (.unit)))))) (a1 : Den (.int .u64)) :
    run { P := Go.Proofs.Tryz.prog, sums := [(134, ⟨I91, O91, p91, f91⟩)], loops := [], globs := G1 } 9 122 Go.Proofs.Tryz.f122 I90 O90 (a0, a1, ()) = t90 p91 f91 a0 a1 := by kernel_rfl
noncomputable def T90 (x : DenS I90) : Option (DenS O90) := t90 S91.pre S91.F x.1 x.2.1
noncomputable def C90 : Cfg := { P := Go.Proofs.Tryz.prog, sums := [(134, S91)], loops := [], globs := G1 }
noncomputable def S90 : Sum := sumOf I90 O90 T90 (DenS.dflt O90)
theorem S90_sound : Sound Go.Proofs.Tryz.prog G1 122 S90 :=
  fn_sound C90 9 122 Go.Proofs.Tryz.f122 mixedOk (by kernel_rfl) (by kernel_rfl) (by kernel_rfl) ⟨S91_sound, trivial⟩ trivial I90 O90 T90 _ (fun x => r90 S91.pre S91.F x.1 x.2.1)
/-- vernier/format.Class -/
abbrev I65 : Sig := [(false, .int .i64), (false, .int .u64)]
abbrev O65 : Sig := [(false, .int .i64), (false, .int .i64)]
noncomputable def t65 (p66 : DenS I66 → Bool) (f66 : DenS I66 → DenS O66) (p90 : DenS I90 → Bool) (f90 : DenS I90 → DenS O90) (p91 : DenS I91 → Bool) (f91 : DenS I91 → DenS O91) (a0 : Den (.int .i64)) (a1 : Den (.int .u64)) : Option (DenS O65) :=
  bif (p66 (a0, (a1, ()))) then
  (bif ((f66 (a0, (a1, ()))).1 != (0 : Int)) then
  (some ((0 : Int), (f66 (a0, (a1, ())))))
  else bif ((decide ((0 : Int) ≤ a0)) && (decide (a0 < ((4 : Nat) : Int)))) then
  (bif (p90 ((Vx.k_rows.getD (Int.toNat a0) ((0 : Int), ((0 : Int), ((0 : Int), ((0 : Int), ()))))), (a1, ()))) then
  (bif (p91 ((Go.IntKind.wrap Go.IntKind.i64 ((Vx.k_rows.getD (Int.toNat a0) ((0 : Int), ((0 : Int), ((0 : Int), ((0 : Int), ()))))).1 - (Vx.k_rows.getD (Int.toNat a0) ((0 : Int), ((0 : Int), ((0 : Int), ((0 : Int), ()))))).2.1)), ())) then
  (bif (((f90 ((Vx.k_rows.getD (Int.toNat a0) ((0 : Int), ((0 : Int), ((0 : Int), ((0 : Int), ()))))), (a1, ()))).2.1 == (f91 ((Go.IntKind.wrap Go.IntKind.i64 ((Vx.k_rows.getD (Int.toNat a0) ((0 : Int), ((0 : Int), ((0 : Int), ((0 : Int), ()))))).1 - (Vx.k_rows.getD (Int.toNat a0) ((0 : Int), ((0 : Int), ((0 : Int), ((0 : Int), ()))))).2.1)), ())).1) && ((f90 ((Vx.k_rows.getD (Int.toNat a0) ((0 : Int), ((0 : Int), ((0 : Int), ((0 : Int), ()))))), (a1, ()))).2.2.1 == (0 : Int))) then
  (bif (f90 ((Vx.k_rows.getD (Int.toNat a0) ((0 : Int), ((0 : Int), ((0 : Int), ((0 : Int), ()))))), (a1, ()))).1 then
  (some ((Go.IntKind.wrap Go.IntKind.i64 ((11 : Int) - (9 : Int))), ((0 : Int), ())))
  else some ((9 : Int), ((0 : Int), ())))
  else bif (p91 ((Go.IntKind.wrap Go.IntKind.i64 ((Vx.k_rows.getD (Int.toNat a0) ((0 : Int), ((0 : Int), ((0 : Int), ((0 : Int), ()))))).1 - (Vx.k_rows.getD (Int.toNat a0) ((0 : Int), ((0 : Int), ((0 : Int), ((0 : Int), ()))))).2.1)), ())) then
  (bif ((decide ((0 : Int) ≤ (Go.IntKind.wrap Go.IntKind.i64 ((Vx.k_rows.getD (Int.toNat a0) ((0 : Int), ((0 : Int), ((0 : Int), ((0 : Int), ()))))).2.1 - (2 : Int))))) || (!(decide ((f90 ((Vx.k_rows.getD (Int.toNat a0) ((0 : Int), ((0 : Int), ((0 : Int), ((0 : Int), ()))))), (a1, ()))).2.1 = (f91 ((Go.IntKind.wrap Go.IntKind.i64 ((Vx.k_rows.getD (Int.toNat a0) ((0 : Int), ((0 : Int), ((0 : Int), ((0 : Int), ()))))).1 - (Vx.k_rows.getD (Int.toNat a0) ((0 : Int), ((0 : Int), ((0 : Int), ((0 : Int), ()))))).2.1)), ())).1)))) then
  (bif (((f90 ((Vx.k_rows.getD (Int.toNat a0) ((0 : Int), ((0 : Int), ((0 : Int), ((0 : Int), ()))))), (a1, ()))).2.1 == (f91 ((Go.IntKind.wrap Go.IntKind.i64 ((Vx.k_rows.getD (Int.toNat a0) ((0 : Int), ((0 : Int), ((0 : Int), ((0 : Int), ()))))).1 - (Vx.k_rows.getD (Int.toNat a0) ((0 : Int), ((0 : Int), ((0 : Int), ((0 : Int), ()))))).2.1)), ())).1) && ((Vx.shrI Go.IntKind.u64 (f90 ((Vx.k_rows.getD (Int.toNat a0) ((0 : Int), ((0 : Int), ((0 : Int), ((0 : Int), ()))))), (a1, ()))).2.2.1 (Go.IntKind.wrap Go.IntKind.i64 ((Vx.k_rows.getD (Int.toNat a0) ((0 : Int), ((0 : Int), ((0 : Int), ((0 : Int), ()))))).2.1 - (2 : Int)))) != (0 : Int))) then
  (some ((1 : Int), ((0 : Int), ())))
  else bif (p91 ((Go.IntKind.wrap Go.IntKind.i64 ((Vx.k_rows.getD (Int.toNat a0) ((0 : Int), ((0 : Int), ((0 : Int), ((0 : Int), ()))))).1 - (Vx.k_rows.getD (Int.toNat a0) ((0 : Int), ((0 : Int), ((0 : Int), ((0 : Int), ()))))).2.1)), ())) then
  (bif ((f90 ((Vx.k_rows.getD (Int.toNat a0) ((0 : Int), ((0 : Int), ((0 : Int), ((0 : Int), ()))))), (a1, ()))).2.1 == (f91 ((Go.IntKind.wrap Go.IntKind.i64 ((Vx.k_rows.getD (Int.toNat a0) ((0 : Int), ((0 : Int), ((0 : Int), ((0 : Int), ()))))).1 - (Vx.k_rows.getD (Int.toNat a0) ((0 : Int), ((0 : Int), ((0 : Int), ((0 : Int), ()))))).2.1)), ())).1) then
  (some ((0 : Int), ((0 : Int), ())))
  else bif (((f90 ((Vx.k_rows.getD (Int.toNat a0) ((0 : Int), ((0 : Int), ((0 : Int), ((0 : Int), ()))))), (a1, ()))).2.1 == (0 : Int)) && ((f90 ((Vx.k_rows.getD (Int.toNat a0) ((0 : Int), ((0 : Int), ((0 : Int), ((0 : Int), ()))))), (a1, ()))).2.2.1 == (0 : Int))) then
  (bif (f90 ((Vx.k_rows.getD (Int.toNat a0) ((0 : Int), ((0 : Int), ((0 : Int), ((0 : Int), ()))))), (a1, ()))).1 then
  (some ((Go.IntKind.wrap Go.IntKind.i64 ((11 : Int) - (6 : Int))), ((0 : Int), ())))
  else some ((6 : Int), ((0 : Int), ())))
  else bif ((f90 ((Vx.k_rows.getD (Int.toNat a0) ((0 : Int), ((0 : Int), ((0 : Int), ((0 : Int), ()))))), (a1, ()))).2.1 == (0 : Int)) then
  (bif (f90 ((Vx.k_rows.getD (Int.toNat a0) ((0 : Int), ((0 : Int), ((0 : Int), ((0 : Int), ()))))), (a1, ()))).1 then
  (some ((Go.IntKind.wrap Go.IntKind.i64 ((11 : Int) - (7 : Int))), ((0 : Int), ())))
  else some ((7 : Int), ((0 : Int), ())))
  else bif (f90 ((Vx.k_rows.getD (Int.toNat a0) ((0 : Int), ((0 : Int), ((0 : Int), ((0 : Int), ()))))), (a1, ()))).1 then
  (some ((Go.IntKind.wrap Go.IntKind.i64 ((11 : Int) - (8 : Int))), ((0 : Int), ())))
  else some ((8 : Int), ((0 : Int), ())))
  else none)
  else none)
  else none)
  else none)
  else none)
  else none)
  else none
theorem r65 (p66 : DenS I66 → Bool) (f66 : DenS I66 → DenS O66) (p90 : DenS I90 → Bool) (f90 : DenS I90 → DenS O90) (p91 : DenS I91 → Bool) (f91 : DenS I91 → DenS O91) (a0 : Den (.int .i64)) (a1 : Den (.int .u64)) :
    run { P := Go.Proofs.Tryz.prog, sums := [(83, ⟨I66, O66, p66, f66⟩), (122, ⟨I90, O90, p90, f90⟩), (134, ⟨I91, O91, p91, f91⟩)], loops := [], globs := G1 } 9 80 Go.Proofs.Tryz.f80 I65 O65 (a0, a1, ()) = t65 p66 f66 p90 f90 p91 f91 a0 a1 := by kernel_rfl
noncomputable def T65 (x : DenS I65) : Option (DenS O65) := t65 S66.pre S66.F S90.pre S90.F S91.pre S91.F x.1 x.2.1
noncomputable def C65 : Cfg := { P := Go.Proofs.Tryz.prog, sums := [(83, S66), (122, S90), (134, S91)], loops := [], globs := G1 }
noncomputable def S65 : Sum := sumOf I65 O65 T65 (DenS.dflt O65)
theorem S65_sound : Sound Go.Proofs.Tryz.prog G1 80 S65 :=
  fn_sound C65 9 80 Go.Proofs.Tryz.f80 mixedOk (by kernel_rfl) (by kernel_rfl) (by kernel_rfl) ⟨S66_sound, ⟨S90_sound, ⟨S91_sound, trivial⟩⟩⟩ trivial I65 O65 T65 _ (fun x => r65 S66.pre S66.F S90.pre S90.F S91.pre S91.F x.1 x.2.1)
/-- vernier/format.sign -/
abbrev I115 : Sig := [(false, .int .i64)]
abbrev O115 : Sig := [(false, .int .u64)]
noncomputable def t115 (a0 : Den (.int .i64)) : Option (DenS O115) :=
  bif ((decide ((0 : Int) ≤ a0)) && (decide (a0 < ((4 : Nat) : Int)))) then
  (bif (decide ((0 : Int) ≤ (Go.IntKind.wrap Go.IntKind.i64 ((Vx.k_rows.getD (Int.toNat a0) ((0 : Int), ((0 : Int), ((0 : Int), ((0 : Int), ()))))).1 - (1 : Int))))) then
  (some ((Vx.shlI Go.IntKind.u64 (1 : Int) (Go.IntKind.wrap Go.IntKind.i64 ((Vx.k_rows.getD (Int.toNat a0) ((0 : Int), ((0 : Int), ((0 : Int), ((0 : Int), ()))))).1 - (1 : Int)))), ()))
  else none)
  else none
theorem r115 (a0 : Den (.int .i64)) :
    run { P := Go.Proofs.Tryz.prog, sums := [], loops := [], globs := G1 } 9 152 Go.Proofs.Tryz.f152 I115 O115 (a0, ()) = t115 a0 := by kernel_rfl
noncomputable def T115 (x : DenS I115) : Option (DenS O115) := t115 x.1
noncomputable def C115 : Cfg := { P := Go.Proofs.Tryz.prog, sums := [], loops := [], globs := G1 }
noncomputable def S115 : Sum := sumOf I115 O115 T115 (DenS.dflt O115)
theorem S115_sound : Sound Go.Proofs.Tryz.prog G1 152 S115 :=
  fn_sound C115 9 152 Go.Proofs.Tryz.f152 mixedOk (by kernel_rfl) (by kernel_rfl) (by kernel_rfl) trivial trivial I115 O115 T115 _ (fun x => r115 x.1)
/-- vernier/format.Abs -/
abbrev I112 : Sig := [(false, .int .i64), (false, .int .u64)]
abbrev O112 : Sig := [(false, .int .u64), (false, .int .i64)]
noncomputable def t112 (p66 : DenS I66 → Bool) (f66 : DenS I66 → DenS O66) (p115 : DenS I115 → Bool) (f115 : DenS I115 → DenS O115) (a0 : Den (.int .i64)) (a1 : Den (.int .u64)) : Option (DenS O112) :=
  bif (p66 (a0, (a1, ()))) then
  (bif ((f66 (a0, (a1, ()))).1 != (0 : Int)) then
  (some ((0 : Int), (f66 (a0, (a1, ())))))
  else bif (p115 (a0, ())) then
  (some ((Vx.andNotI Go.IntKind.u64 a1 (f115 (a0, ())).1), ((0 : Int), ())))
  else none)
  else none
theorem r112 (p66 : DenS I66 → Bool) (f66 : DenS I66 → DenS O66) (p115 : DenS I115 → Bool) (f115 : DenS I115 → DenS O115) (a0 : Den (.int .i64)) (a1 : Den (.int .u64)) :
    run { P := Go.Proofs.Tryz.prog, sums := [(83, ⟨I66, O66, p66, f66⟩), (152, ⟨I115, O115, p115, f115⟩)], loops := [], globs := G1 } 9 118 Go.Proofs.Tryz.f118 I112 O112 (a0, a1, ()) = t112 p66 f66 p115 f115 a0 a1 := by kernel_rfl
noncomputable def T112 (x : DenS I112) : Option (DenS O112) := t112 S66.pre S66.F S115.pre S115.F x.1 x.2.1
noncomputable def C112 : Cfg := { P := Go.Proofs.Tryz.prog, sums := [(83, S66), (152, S115)], loops := [], globs := G1 }
noncomputable def S112 : Sum := sumOf I112 O112 T112 (DenS.dflt O112)
theorem S112_sound : Sound Go.Proofs.Tryz.prog G1 118 S112 :=
  fn_sound C112 9 118 Go.Proofs.Tryz.f118 mixedOk (by kernel_rfl) (by kernel_rfl) (by kernel_rfl) ⟨S66_sound, ⟨S115_sound, trivial⟩⟩ trivial I112 O112 T112 _ (fun x => r112 S66.pre S66.F S115.pre S115.F x.1 x.2.1)
/-- vernier/order.open -/
abbrev I82 : Sig := [(false, .int .i64), (false, .int .u64)]
abbrev O82 : Sig := [(true, .pair (.int .i64) (.pair (.int .i64) (.unit))), (false, .int .i64)]
noncomputable def t82 (p65 : DenS I65 → Bool) (f65 : DenS I65 → DenS O65) (p112 : DenS I112 → Bool) (f112 : DenS I112 → DenS O112) (a0 : Den (.int .i64)) (a1 : Den (.int .u64)) : Option (DenS O82) :=
  bif (p65 (a0, (a1, ()))) then
  (bif ((f65 (a0, (a1, ()))).2.1 != (0 : Int)) then
  (some (((0 : Int), ((0 : Int), ())), (f65 (a0, (a1, ()))).2))
  else bif (p112 (a0, (a1, ()))) then
  (bif ((f112 (a0, (a1, ()))).1 != a1) then
  (some (((f65 (a0, (a1, ()))).1, ((Go.IntKind.wrap Go.IntKind.i64 ((0 : Int) - (Go.IntKind.wrap Go.IntKind.i64 (f112 (a0, (a1, ()))).1))), ())), ((0 : Int), ())))
  else some (((f65 (a0, (a1, ()))).1, ((Go.IntKind.wrap Go.IntKind.i64 (f112 (a0, (a1, ()))).1), ())), ((0 : Int), ())))
  else none)
  else none
theorem r82 (p65 : DenS I65 → Bool) (f65 : DenS I65 → DenS O65) (p112 : DenS I112 → Bool) (f112 : DenS I112 → DenS O112) (a0 : Den (.int .i64)) (a1 : Den (.int .u64)) :
    run { P := Go.Proofs.Tryz.prog, sums := [(80, ⟨I65, O65, p65, f65⟩), (118, ⟨I112, O112, p112, f112⟩)], loops := [], globs := G1 } 9 50 Go.Proofs.Tryz.f50 I82 O82 (a0, a1, ()) = t82 p65 f65 p112 f112 a0 a1 := by kernel_rfl
noncomputable def T82 (x : DenS I82) : Option (DenS O82) := t82 S65.pre S65.F S112.pre S112.F x.1 x.2.1
noncomputable def C82 : Cfg := { P := Go.Proofs.Tryz.prog, sums := [(80, S65), (118, S112)], loops := [], globs := G1 }
noncomputable def S82 : Sum := sumOf I82 O82 T82 (DenS.dflt O82)
theorem S82_sound : Sound Go.Proofs.Tryz.prog G1 50 S82 :=
  fn_sound C82 9 50 Go.Proofs.Tryz.f50 mixedOk (by kernel_rfl) (by kernel_rfl) (by kernel_rfl) ⟨S65_sound, ⟨S112_sound, trivial⟩⟩ trivial I82 O82 T82 _ (fun x => r82 S65.pre S65.F S112.pre S112.F x.1 x.2.1)
/-- (vernier/order.operand).nan -/
abbrev I53 : Sig := [(true, .pair (.int .i64) (.pair (.int .i64) (.unit)))]
abbrev O53 : Sig := [(false, .bool)]
noncomputable def t53 (a0 : Den (.pair (.int .i64) (.pair (.int .i64) (.unit)))) : Option (DenS O53) :=
  some (((a0.1 == (1 : Int)) || (a0.1 == (0 : Int))), ())
theorem r53 (a0 : Den (.pair (.int .i64) (.pair (.int .i64) (.unit)))) :
    run { P := Go.Proofs.Tryz.prog, sums := [], loops := [], globs := G1 } 9 51 Go.Proofs.Tryz.f51 I53 O53 (a0, ()) = t53 a0 := by kernel_rfl
noncomputable def T53 (x : DenS I53) : Option (DenS O53) := t53 x.1
noncomputable def C53 : Cfg := { P := Go.Proofs.Tryz.prog, sums := [], loops := [], globs := G1 }
noncomputable def S53 : Sum := sumOf I53 O53 T53 (DenS.dflt O53)
theorem S53_sound : Sound Go.Proofs.Tryz.prog G1 51 S53 :=
  fn_sound C53 9 51 Go.Proofs.Tryz.f51 mixedOk (by kernel_rfl) (by kernel_rfl) (by kernel_rfl) trivial trivial I53 O53 T53 _ (fun x => r53 x.1)
/-- vernier/format.none -/
abbrev I116 : Sig := [(true, .pair (.int .i64) (.pair (.int .i64) (.pair (.int .i64) (.pair (.int .i64) (.unit)))))]
abbrev O116 : Sig := [(false, .int .u64)]
noncomputable def t116 (a0 : Den (.pair (.int .i64) (.pair (.int .i64) (.pair (.int .i64) (.pair (.int .i64) (.unit)))))) : Option (DenS O116) :=
  some ((0 : Int), ())
theorem r116 (a0 : Den (.pair (.int .i64) (.pair (.int .i64) (.pair (.int .i64) (.pair (.int .i64) (.unit)))))) :
    run { P := Go.Proofs.Tryz.prog, sums := [], loops := [], globs := G1 } 9 120 Go.Proofs.Tryz.f120 I116 O116 (a0, ()) = t116 a0 := by kernel_rfl
noncomputable def T116 (x : DenS I116) : Option (DenS O116) := t116 x.1
noncomputable def C116 : Cfg := { P := Go.Proofs.Tryz.prog, sums := [], loops := [], globs := G1 }
noncomputable def S116 : Sum := sumOf I116 O116 T116 (DenS.dflt O116)
theorem S116_sound : Sound Go.Proofs.Tryz.prog G1 120 S116 :=
  fn_sound C116 9 120 Go.Proofs.Tryz.f120 mixedOk (by kernel_rfl) (by kernel_rfl) (by kernel_rfl) trivial trivial I116 O116 T116 _ (fun x => r116 x.1)
/-- vernier/format.top -/
abbrev I117 : Sig := [(true, .pair (.int .i64) (.pair (.int .i64) (.pair (.int .i64) (.pair (.int .i64) (.unit)))))]
abbrev O117 : Sig := [(false, .int .u64)]
noncomputable def t117 (a0 : Den (.pair (.int .i64) (.pair (.int .i64) (.pair (.int .i64) (.pair (.int .i64) (.unit)))))) : Option (DenS O117) :=
  bif (decide ((0 : Int) ≤ (Go.IntKind.wrap Go.IntKind.i64 (a0.2.1 - (2 : Int))))) then
  (some ((Vx.shlI Go.IntKind.u64 (1 : Int) (Go.IntKind.wrap Go.IntKind.i64 (a0.2.1 - (2 : Int)))), ()))
  else none
theorem r117 (a0 : Den (.pair (.int .i64) (.pair (.int .i64) (.pair (.int .i64) (.pair (.int .i64) (.unit)))))) :
    run { P := Go.Proofs.Tryz.prog, sums := [], loops := [], globs := G1 } 9 121 Go.Proofs.Tryz.f121 I117 O117 (a0, ()) = t117 a0 := by kernel_rfl
noncomputable def T117 (x : DenS I117) : Option (DenS O117) := t117 x.1
noncomputable def C117 : Cfg := { P := Go.Proofs.Tryz.prog, sums := [], loops := [], globs := G1 }
noncomputable def S117 : Sum := sumOf I117 O117 T117 (DenS.dflt O117)
theorem S117_sound : Sound Go.Proofs.Tryz.prog G1 121 S117 :=
  fn_sound C117 9 121 Go.Proofs.Tryz.f121 mixedOk (by kernel_rfl) (by kernel_rfl) (by kernel_rfl) trivial trivial I117 O117 T117 _ (fun x => r117 x.1)
/-- vernier/format.join -/
abbrev I140 : Sig := [(true, .pair (.int .i64) (.pair (.int .i64) (.pair (.int .i64) (.pair (.int .i64) (.unit))))), (false, .bool), (false, .int .u64), (false, .int .u64)]
abbrev O140 : Sig := [(false, .int .u64)]
noncomputable def t140 (a0 : Den (.pair (.int .i64) (.pair (.int .i64) (.pair (.int .i64) (.pair (.int .i64) (.unit)))))) (a1 : Den (.bool)) (a2 : Den (.int .u64)) (a3 : Den (.int .u64)) : Option (DenS O140) :=
  bif (decide ((0 : Int) ≤ (Go.IntKind.wrap Go.IntKind.i64 (a0.2.1 - (1 : Int))))) then
  (bif a1 then
  (bif (decide ((0 : Int) ≤ (Go.IntKind.wrap Go.IntKind.i64 (a0.1 - (1 : Int))))) then
  (some ((Vx.orI Go.IntKind.u64 (Vx.orI Go.IntKind.u64 (Vx.shlI Go.IntKind.u64 a2 (Go.IntKind.wrap Go.IntKind.i64 (a0.2.1 - (1 : Int)))) a3) (Vx.shlI Go.IntKind.u64 (1 : Int) (Go.IntKind.wrap Go.IntKind.i64 (a0.1 - (1 : Int))))), ()))
  else none)
  else some ((Vx.orI Go.IntKind.u64 (Vx.shlI Go.IntKind.u64 a2 (Go.IntKind.wrap Go.IntKind.i64 (a0.2.1 - (1 : Int)))) a3), ()))
  else none
theorem r140 (a0 : Den (.pair (.int .i64) (.pair (.int .i64) (.pair (.int .i64) (.pair (.int .i64) (.unit)))))) (a1 : Den (.bool)) (a2 : Den (.int .u64)) (a3 : Den (.int .u64)) :
    run { P := Go.Proofs.Tryz.prog, sums := [], loops := [], globs := G1 } 9 160 Go.Proofs.Tryz.f160 I140 O140 (a0, a1, a2, a3, ()) = t140 a0 a1 a2 a3 := by kernel_rfl
noncomputable def T140 (x : DenS I140) : Option (DenS O140) := t140 x.1 x.2.1 x.2.2.1 x.2.2.2.1
noncomputable def C140 : Cfg := { P := Go.Proofs.Tryz.prog, sums := [], loops := [], globs := G1 }
noncomputable def S140 : Sum := sumOf I140 O140 T140 (DenS.dflt O140)
theorem S140_sound : Sound Go.Proofs.Tryz.prog G1 160 S140 :=
  fn_sound C140 9 160 Go.Proofs.Tryz.f160 mixedOk (by kernel_rfl) (by kernel_rfl) (by kernel_rfl) trivial trivial I140 O140 T140 _ (fun x => r140 x.1 x.2.1 x.2.2.1 x.2.2.2.1)
/-- vernier/format.NaN -/
abbrev I70 : Sig := [(false, .int .i64)]
abbrev O70 : Sig := [(false, .int .u64), (false, .int .i64)]
noncomputable def t70 (p116 : DenS I116 → Bool) (f116 : DenS I116 → DenS O116) (p117 : DenS I117 → Bool) (f117 : DenS I117 → DenS O117) (p69 : DenS I69 → Bool) (f69 : DenS I69 → DenS O69) (p91 : DenS I91 → Bool) (f91 : DenS I91 → DenS O91) (p140 : DenS I140 → Bool) (f140 : DenS I140 → DenS O140) (a0 : Den (.int .i64)) : Option (DenS O70) :=
  bif (p69 (a0, ())) then
  (bif ((f69 (a0, ())).2.1 != (0 : Int)) then
  (some ((0 : Int), (f69 (a0, ())).2))
  else bif (p91 ((Go.IntKind.wrap Go.IntKind.i64 ((f69 (a0, ())).1.1 - (f69 (a0, ())).1.2.1)), ())) then
  (bif (p116 ((f69 (a0, ())).1, ())) then
  (bif (p117 ((f69 (a0, ())).1, ())) then
  (bif (p140 ((f69 (a0, ())).1, (false, ((Go.IntKind.wrap Go.IntKind.u64 ((f91 ((Go.IntKind.wrap Go.IntKind.i64 ((f69 (a0, ())).1.1 - (f69 (a0, ())).1.2.1)), ())).1 - (f116 ((f69 (a0, ())).1, ())).1)), (f117 ((f69 (a0, ())).1, ())))))) then
  (some ((f140 ((f69 (a0, ())).1, (false, ((Go.IntKind.wrap Go.IntKind.u64 ((f91 ((Go.IntKind.wrap Go.IntKind.i64 ((f69 (a0, ())).1.1 - (f69 (a0, ())).1.2.1)), ())).1 - (f116 ((f69 (a0, ())).1, ())).1)), (f117 ((f69 (a0, ())).1, ())))))).1, ((0 : Int), ())))
  else none)
  else none)
  else none)
  else none)
  else none
theorem r70 (p116 : DenS I116 → Bool) (f116 : DenS I116 → DenS O116) (p117 : DenS I117 → Bool) (f117 : DenS I117 → DenS O117) (p69 : DenS I69 → Bool) (f69 : DenS I69 → DenS O69) (p91 : DenS I91 → Bool) (f91 : DenS I91 → DenS O91) (p140 : DenS I140 → Bool) (f140 : DenS I140 → DenS O140) (a0 : Den (.int .i64)) :
    run { P := Go.Proofs.Tryz.prog, sums := [(120, ⟨I116, O116, p116, f116⟩), (121, ⟨I117, O117, p117, f117⟩), (55, ⟨I69, O69, p69, f69⟩), (134, ⟨I91, O91, p91, f91⟩), (160, ⟨I140, O140, p140, f140⟩)], loops := [], globs := G1 } 9 53 Go.Proofs.Tryz.f53 I70 O70 (a0, ()) = t70 p116 f116 p117 f117 p69 f69 p91 f91 p140 f140 a0 := by kernel_rfl
noncomputable def T70 (x : DenS I70) : Option (DenS O70) := t70 S116.pre S116.F S117.pre S117.F S69.pre S69.F S91.pre S91.F S140.pre S140.F x.1
noncomputable def C70 : Cfg := { P := Go.Proofs.Tryz.prog, sums := [(120, S116), (121, S117), (55, S69), (134, S91), (160, S140)], loops := [], globs := G1 }
noncomputable def S70 : Sum := sumOf I70 O70 T70 (DenS.dflt O70)
theorem S70_sound : Sound Go.Proofs.Tryz.prog G1 53 S70 :=
  fn_sound C70 9 53 Go.Proofs.Tryz.f53 mixedOk (by kernel_rfl) (by kernel_rfl) (by kernel_rfl) ⟨S116_sound, ⟨S117_sound, ⟨S69_sound, ⟨S91_sound, ⟨S140_sound, trivial⟩⟩⟩⟩⟩ trivial I70 O70 T70 _ (fun x => r70 S116.pre S116.F S117.pre S117.F S69.pre S69.F S91.pre S91.F S140.pre S140.F x.1)
/-- vernier/order.loud -/
abbrev I54 : Sig := [(true, .pair (.int .i64) (.pair (.int .i64) (.unit))), (true, .pair (.int .i64) (.pair (.int .i64) (.unit)))]
abbrev O54 : Sig := [(false, .int .i64)]
noncomputable def t54 (a0 : Den (.pair (.int .i64) (.pair (.int .i64) (.unit)))) (a1 : Den (.pair (.int .i64) (.pair (.int .i64) (.unit)))) : Option (DenS O54) :=
  bif ((a0.1 == (0 : Int)) || (a1.1 == (0 : Int))) then
  (some ((1 : Int), ()))
  else some ((0 : Int), ())
theorem r54 (a0 : Den (.pair (.int .i64) (.pair (.int .i64) (.unit)))) (a1 : Den (.pair (.int .i64) (.pair (.int .i64) (.unit)))) :
    run { P := Go.Proofs.Tryz.prog, sums := [], loops := [], globs := G1 } 9 52 Go.Proofs.Tryz.f52 I54 O54 (a0, a1, ()) = t54 a0 a1 := by kernel_rfl
noncomputable def T54 (x : DenS I54) : Option (DenS O54) := t54 x.1 x.2.1
noncomputable def C54 : Cfg := { P := Go.Proofs.Tryz.prog, sums := [], loops := [], globs := G1 }
noncomputable def S54 : Sum := sumOf I54 O54 T54 (DenS.dflt O54)
theorem S54_sound : Sound Go.Proofs.Tryz.prog G1 52 S54 :=
  fn_sound C54 9 52 Go.Proofs.Tryz.f52 mixedOk (by kernel_rfl) (by kernel_rfl) (by kernel_rfl) trivial trivial I54 O54 T54 _ (fun x => r54 x.1 x.2.1)
/-- vernier/format.Neg -/
abbrev I64 : Sig := [(false, .int .i64), (false, .int .u64)]
abbrev O64 : Sig := [(false, .int .u64), (false, .int .i64)]
noncomputable def t64 (p66 : DenS I66 → Bool) (f66 : DenS I66 → DenS O66) (p115 : DenS I115 → Bool) (f115 : DenS I115 → DenS O115) (a0 : Den (.int .i64)) (a1 : Den (.int .u64)) : Option (DenS O64) :=
  bif (p66 (a0, (a1, ()))) then
  (bif ((f66 (a0, (a1, ()))).1 != (0 : Int)) then
  (some ((0 : Int), (f66 (a0, (a1, ())))))
  else bif (p115 (a0, ())) then
  (some ((Vx.xorI Go.IntKind.u64 a1 (f115 (a0, ())).1), ((0 : Int), ())))
  else none)
  else none
theorem r64 (p66 : DenS I66 → Bool) (f66 : DenS I66 → DenS O66) (p115 : DenS I115 → Bool) (f115 : DenS I115 → DenS O115) (a0 : Den (.int .i64)) (a1 : Den (.int .u64)) :
    run { P := Go.Proofs.Tryz.prog, sums := [(83, ⟨I66, O66, p66, f66⟩), (152, ⟨I115, O115, p115, f115⟩)], loops := [], globs := G1 } 9 84 Go.Proofs.Tryz.f84 I64 O64 (a0, a1, ()) = t64 p66 f66 p115 f115 a0 a1 := by kernel_rfl
noncomputable def T64 (x : DenS I64) : Option (DenS O64) := t64 S66.pre S66.F S115.pre S115.F x.1 x.2.1
noncomputable def C64 : Cfg := { P := Go.Proofs.Tryz.prog, sums := [(83, S66), (152, S115)], loops := [], globs := G1 }
noncomputable def S64 : Sum := sumOf I64 O64 T64 (DenS.dflt O64)
theorem S64_sound : Sound Go.Proofs.Tryz.prog G1 84 S64 :=
  fn_sound C64 9 84 Go.Proofs.Tryz.f84 mixedOk (by kernel_rfl) (by kernel_rfl) (by kernel_rfl) ⟨S66_sound, ⟨S115_sound, trivial⟩⟩ trivial I64 O64 T64 _ (fun x => r64 S66.pre S66.F S115.pre S115.F x.1 x.2.1)
/-- vernier/order.step -/
abbrev I93 : Sig := [(false, .int .i64), (false, .int .u64), (false, .int .i64)]
abbrev O93 : Sig := [(false, .int .u64), (false, .int .i64), (false, .int .i64)]
noncomputable def t93 (p82 : DenS I82 → Bool) (f82 : DenS I82 → DenS O82) (p53 : DenS I53 → Bool) (f53 : DenS I53 → DenS O53) (p70 : DenS I70 → Bool) (f70 : DenS I70 → DenS O70) (p54 : DenS I54 → Bool) (f54 : DenS I54 → DenS O54) (p64 : DenS I64 → Bool) (f64 : DenS I64 → DenS O64) (a0 : Den (.int .i64)) (a1 : Den (.int .u64)) (a2 : Den (.int .i64)) : Option (DenS O93) :=
  bif (p82 (a0, (a1, ()))) then
  (bif ((f82 (a0, (a1, ()))).2.1 != (0 : Int)) then
  (some ((0 : Int), ((0 : Int), (f82 (a0, (a1, ()))).2)))
  else bif (p53 ((f82 (a0, (a1, ()))).1, ())) then
  (bif (f53 ((f82 (a0, (a1, ()))).1, ())).1 then
  (bif (p70 (a0, ())) then
  (bif (p54 ((f82 (a0, (a1, ()))).1, ((f82 (a0, (a1, ()))).1, ()))) then
  (some ((f70 (a0, ())).1, ((f54 ((f82 (a0, (a1, ()))).1, ((f82 (a0, (a1, ()))).1, ()))).1, ((0 : Int), ()))))
  else none)
  else none)
  else bif ((((f82 (a0, (a1, ()))).1.1 == (9 : Int)) && (decide (a2 > (0 : Int)))) || (((f82 (a0, (a1, ()))).1.1 == (2 : Int)) && (decide (a2 < (0 : Int))))) then
  (some (a1, ((0 : Int), ((0 : Int), ()))))
  else bif ((decide ((Go.IntKind.wrap Go.IntKind.i64 ((f82 (a0, (a1, ()))).1.2.1 + a2)) > (0 : Int))) || (((Go.IntKind.wrap Go.IntKind.i64 ((f82 (a0, (a1, ()))).1.2.1 + a2)) == (0 : Int)) && (decide (a2 < (0 : Int))))) then
  (some ((Go.IntKind.wrap Go.IntKind.u64 (Go.IntKind.wrap Go.IntKind.i64 ((f82 (a0, (a1, ()))).1.2.1 + a2))), ((0 : Int), ((0 : Int), ()))))
  else bif (p64 (a0, ((Go.IntKind.wrap Go.IntKind.u64 (Go.IntKind.wrap Go.IntKind.i64 ((0 : Int) - (Go.IntKind.wrap Go.IntKind.i64 ((f82 (a0, (a1, ()))).1.2.1 + a2))))), ()))) then
  (some ((f64 (a0, ((Go.IntKind.wrap Go.IntKind.u64 (Go.IntKind.wrap Go.IntKind.i64 ((0 : Int) - (Go.IntKind.wrap Go.IntKind.i64 ((f82 (a0, (a1, ()))).1.2.1 + a2))))), ()))).1, ((0 : Int), (f64 (a0, ((Go.IntKind.wrap Go.IntKind.u64 (Go.IntKind.wrap Go.IntKind.i64 ((0 : Int) - (Go.IntKind.wrap Go.IntKind.i64 ((f82 (a0, (a1, ()))).1.2.1 + a2))))), ()))).2)))
  else none)
  else none)
  else none
theorem r93 (p82 : DenS I82 → Bool) (f82 : DenS I82 → DenS O82) (p53 : DenS I53 → Bool) (f53 : DenS I53 → DenS O53) (p70 : DenS I70 → Bool) (f70 : DenS I70 → DenS O70) (p54 : DenS I54 → Bool) (f54 : DenS I54 → DenS O54) (p64 : DenS I64 → Bool) (f64 : DenS I64 → DenS O64) (a0 : Den (.int .i64)) (a1 : Den (.int .u64)) (a2 : Den (.int .i64)) :
    run { P := Go.Proofs.Tryz.prog, sums := [(50, ⟨I82, O82, p82, f82⟩), (51, ⟨I53, O53, p53, f53⟩), (53, ⟨I70, O70, p70, f70⟩), (52, ⟨I54, O54, p54, f54⟩), (84, ⟨I64, O64, p64, f64⟩)], loops := [], globs := G1 } 9 44 Go.Proofs.Tryz.f44 I93 O93 (a0, a1, a2, ()) = t93 p82 f82 p53 f53 p70 f70 p54 f54 p64 f64 a0 a1 a2 := by kernel_rfl
noncomputable def T93 (x : DenS I93) : Option (DenS O93) := t93 S82.pre S82.F S53.pre S53.F S70.pre S70.F S54.pre S54.F S64.pre S64.F x.1 x.2.1 x.2.2.1
noncomputable def C93 : Cfg := { P := Go.Proofs.Tryz.prog, sums := [(50, S82), (51, S53), (53, S70), (52, S54), (84, S64)], loops := [], globs := G1 }
noncomputable def S93 : Sum := sumOf I93 O93 T93 (DenS.dflt O93)
theorem S93_sound : Sound Go.Proofs.Tryz.prog G1 44 S93 :=
  fn_sound C93 9 44 Go.Proofs.Tryz.f44 mixedOk (by kernel_rfl) (by kernel_rfl) (by kernel_rfl) ⟨S82_sound, ⟨S53_sound, ⟨S70_sound, ⟨S54_sound, ⟨S64_sound, trivial⟩⟩⟩⟩⟩ trivial I93 O93 T93 _ (fun x => r93 S82.pre S82.F S53.pre S53.F S70.pre S70.F S54.pre S54.F S64.pre S64.F x.1 x.2.1 x.2.2.1)
/-- vernier/order.NextUp -/
abbrev I41 : Sig := [(false, .int .i64), (false, .int .u64)]
abbrev O41 : Sig := [(false, .int .u64), (false, .int .i64), (false, .int .i64)]
noncomputable def t41 (p93 : DenS I93 → Bool) (f93 : DenS I93 → DenS O93) (a0 : Den (.int .i64)) (a1 : Den (.int .u64)) : Option (DenS O41) :=
  bif (p93 (a0, (a1, ((1 : Int), ())))) then
  (some (f93 (a0, (a1, ((1 : Int), ())))))
  else none
theorem r41 (p93 : DenS I93 → Bool) (f93 : DenS I93 → DenS O93) (a0 : Den (.int .i64)) (a1 : Den (.int .u64)) :
    run { P := Go.Proofs.Tryz.prog, sums := [(44, ⟨I93, O93, p93, f93⟩)], loops := [], globs := G1 } 9 8 Go.Proofs.Tryz.f8 I41 O41 (a0, a1, ()) = t41 p93 f93 a0 a1 := by kernel_rfl
noncomputable def T41 (x : DenS I41) : Option (DenS O41) := t41 S93.pre S93.F x.1 x.2.1
noncomputable def C41 : Cfg := { P := Go.Proofs.Tryz.prog, sums := [(44, S93)], loops := [], globs := G1 }
noncomputable def S41 : Sum := sumOf I41 O41 T41 (DenS.dflt O41)
theorem S41_sound : Sound Go.Proofs.Tryz.prog G1 8 S41 :=
  fn_sound C41 9 8 Go.Proofs.Tryz.f8 mixedOk (by kernel_rfl) (by kernel_rfl) (by kernel_rfl) ⟨S93_sound, trivial⟩ trivial I41 O41 T41 _ (fun x => r41 S93.pre S93.F x.1 x.2.1)
/-- vernier/vernierref04.Row -/
abbrev I131 : Sig := [(false, .int .i64)]
abbrev O131 : Sig := [(true, .pair (.int .i64) (.pair (.int .i64) (.pair (.int .i64) (.pair (.int .i64) (.unit))))), (false, .bool)]
noncomputable def t131 (a0 : Den (.int .i64)) : Option (DenS O131) :=
  bif (a0 == (0 : Int)) then
  (some (((16 : Int), ((11 : Int), ((-(14 : Int)), ((15 : Int), ())))), (true, ())))
  else bif (a0 == (1 : Int)) then
  (some (((16 : Int), ((8 : Int), ((-(126 : Int)), ((127 : Int), ())))), (true, ())))
  else bif (a0 == (2 : Int)) then
  (some (((32 : Int), ((24 : Int), ((-(126 : Int)), ((127 : Int), ())))), (true, ())))
  else bif (a0 == (3 : Int)) then
  (some (((64 : Int), ((53 : Int), ((-(1022 : Int)), ((1023 : Int), ())))), (true, ())))
  else some (((0 : Int), ((0 : Int), ((0 : Int), ((0 : Int), ())))), (false, ()))
theorem r131 (a0 : Den (.int .i64)) :
    run { P := Go.Proofs.Tryz.prog, sums := [], loops := [], globs := G1 } 9 112 Go.Proofs.Tryz.f112 I131 O131 (a0, ()) = t131 a0 := by kernel_rfl
noncomputable def T131 (x : DenS I131) : Option (DenS O131) := t131 x.1
noncomputable def C131 : Cfg := { P := Go.Proofs.Tryz.prog, sums := [], loops := [], globs := G1 }
noncomputable def S131 : Sum := sumOf I131 O131 T131 (DenS.dflt O131)
theorem S131_sound : Sound Go.Proofs.Tryz.prog G1 112 S131 :=
  fn_sound C131 9 112 Go.Proofs.Tryz.f112 mixedOk (by kernel_rfl) (by kernel_rfl) (by kernel_rfl) trivial trivial I131 O131 T131 _ (fun x => r131 x.1)
/-- vernier/vernierref04.Check -/
abbrev I108 : Sig := [(false, .int .i64), (false, .int .u64)]
abbrev O108 : Sig := [(false, .int .i64)]
noncomputable def t108 (p131 : DenS I131 → Bool) (f131 : DenS I131 → DenS O131) (a0 : Den (.int .i64)) (a1 : Den (.int .u64)) : Option (DenS O108) :=
  bif (p131 (a0, ())) then
  (bif (!(f131 (a0, ())).2.1) then
  (some ((2 : Int), ()))
  else bif ((decide ((f131 (a0, ())).1.1 < (64 : Int))) && ((Vx.shrI Go.IntKind.u64 a1 (Go.IntKind.wrap Go.IntKind.u64 (f131 (a0, ())).1.1)) != (0 : Int))) then
  (some ((4 : Int), ()))
  else some ((0 : Int), ()))
  else none
theorem r108 (p131 : DenS I131 → Bool) (f131 : DenS I131 → DenS O131) (a0 : Den (.int .i64)) (a1 : Den (.int .u64)) :
    run { P := Go.Proofs.Tryz.prog, sums := [(112, ⟨I131, O131, p131, f131⟩)], loops := [], globs := G1 } 9 45 Go.Proofs.Tryz.f45 I108 O108 (a0, a1, ()) = t108 p131 f131 a0 a1 := by kernel_rfl
noncomputable def T108 (x : DenS I108) : Option (DenS O108) := t108 S131.pre S131.F x.1 x.2.1
noncomputable def C108 : Cfg := { P := Go.Proofs.Tryz.prog, sums := [(112, S131)], loops := [], globs := G1 }
noncomputable def S108 : Sum := sumOf I108 O108 T108 (DenS.dflt O108)
theorem S108_sound : Sound Go.Proofs.Tryz.prog G1 45 S108 :=
  fn_sound C108 9 45 Go.Proofs.Tryz.f45 mixedOk (by kernel_rfl) (by kernel_rfl) (by kernel_rfl) ⟨S131_sound, trivial⟩ trivial I108 O108 T108 _ (fun x => r108 S131.pre S131.F x.1 x.2.1)
/-- vernier/vernierref04.Parts -/
abbrev I113 : Sig := [(false, .int .i64), (false, .int .u64)]
abbrev O113 : Sig := [(false, .int .u64), (false, .int .u64), (false, .int .u64), (false, .int .u64)]
noncomputable def t113 (p131 : DenS I131 → Bool) (f131 : DenS I131 → DenS O131) (a0 : Den (.int .i64)) (a1 : Den (.int .u64)) : Option (DenS O113) :=
  bif (p131 (a0, ())) then
  (bif ((Vx.shlI Go.IntKind.u64 (1 : Int) (Go.IntKind.wrap Go.IntKind.u64 (Go.IntKind.wrap Go.IntKind.i64 ((f131 (a0, ())).1.2.1 - (1 : Int))))) != (0 : Int)) then
  (some ((Vx.andI Go.IntKind.u64 (Vx.shrI Go.IntKind.u64 a1 (Go.IntKind.wrap Go.IntKind.u64 (Go.IntKind.wrap Go.IntKind.i64 ((f131 (a0, ())).1.1 - (1 : Int))))) (1 : Int)), ((Vx.andI Go.IntKind.u64 (Vx.shrI Go.IntKind.u64 a1 (Go.IntKind.wrap Go.IntKind.u64 (Go.IntKind.wrap Go.IntKind.i64 ((f131 (a0, ())).1.2.1 - (1 : Int))))) (Go.IntKind.wrap Go.IntKind.u64 (Go.IntKind.wrap Go.IntKind.i64 ((Go.IntKind.wrap Go.IntKind.i64 ((2 : Int) * (f131 (a0, ())).1.2.2.2.1)) + (1 : Int))))), ((Int.tmod a1 (Vx.shlI Go.IntKind.u64 (1 : Int) (Go.IntKind.wrap Go.IntKind.u64 (Go.IntKind.wrap Go.IntKind.i64 ((f131 (a0, ())).1.2.1 - (1 : Int)))))), ((Go.IntKind.wrap Go.IntKind.u64 (Go.IntKind.wrap Go.IntKind.i64 ((Go.IntKind.wrap Go.IntKind.i64 ((2 : Int) * (f131 (a0, ())).1.2.2.2.1)) + (1 : Int)))), ())))))
  else none)
  else none
theorem r113 (p131 : DenS I131 → Bool) (f131 : DenS I131 → DenS O131) (a0 : Den (.int .i64)) (a1 : Den (.int .u64)) :
    run { P := Go.Proofs.Tryz.prog, sums := [(112, ⟨I131, O131, p131, f131⟩)], loops := [], globs := G1 } 9 126 Go.Proofs.Tryz.f126 I113 O113 (a0, a1, ()) = t113 p131 f131 a0 a1 := by kernel_rfl
noncomputable def T113 (x : DenS I113) : Option (DenS O113) := t113 S131.pre S131.F x.1 x.2.1
noncomputable def C113 : Cfg := { P := Go.Proofs.Tryz.prog, sums := [(112, S131)], loops := [], globs := G1 }
noncomputable def S113 : Sum := sumOf I113 O113 T113 (DenS.dflt O113)
theorem S113_sound : Sound Go.Proofs.Tryz.prog G1 126 S113 :=
  fn_sound C113 9 126 Go.Proofs.Tryz.f126 mixedOk (by kernel_rfl) (by kernel_rfl) (by kernel_rfl) ⟨S131_sound, trivial⟩ trivial I113 O113 T113 _ (fun x => r113 S131.pre S131.F x.1 x.2.1)
/-- vernier/vernierref04.IsNaN -/
abbrev I109 : Sig := [(false, .int .i64), (false, .int .u64)]
abbrev O109 : Sig := [(false, .bool)]
noncomputable def t109 (p113 : DenS I113 → Bool) (f113 : DenS I113 → DenS O113) (a0 : Den (.int .i64)) (a1 : Den (.int .u64)) : Option (DenS O109) :=
  bif (p113 (a0, (a1, ()))) then
  (some ((((f113 (a0, (a1, ()))).2.1 == (f113 (a0, (a1, ()))).2.2.2.1) && ((f113 (a0, (a1, ()))).2.2.1 != (0 : Int))), ()))
  else none
theorem r109 (p113 : DenS I113 → Bool) (f113 : DenS I113 → DenS O113) (a0 : Den (.int .i64)) (a1 : Den (.int .u64)) :
    run { P := Go.Proofs.Tryz.prog, sums := [(126, ⟨I113, O113, p113, f113⟩)], loops := [], globs := G1 } 9 64 Go.Proofs.Tryz.f64 I109 O109 (a0, a1, ()) = t109 p113 f113 a0 a1 := by kernel_rfl
noncomputable def T109 (x : DenS I109) : Option (DenS O109) := t109 S113.pre S113.F x.1 x.2.1
noncomputable def C109 : Cfg := { P := Go.Proofs.Tryz.prog, sums := [(126, S113)], loops := [], globs := G1 }
noncomputable def S109 : Sum := sumOf I109 O109 T109 (DenS.dflt O109)
theorem S109_sound : Sound Go.Proofs.Tryz.prog G1 64 S109 :=
  fn_sound C109 9 64 Go.Proofs.Tryz.f64 mixedOk (by kernel_rfl) (by kernel_rfl) (by kernel_rfl) ⟨S113_sound, trivial⟩ trivial I109 O109 T109 _ (fun x => r109 S113.pre S113.F x.1 x.2.1)
/-- vernier/vernierref04.Signals -/
abbrev I110 : Sig := [(false, .int .i64), (false, .int .u64)]
abbrev O110 : Sig := [(false, .bool)]
noncomputable def t110 (p131 : DenS I131 → Bool) (f131 : DenS I131 → DenS O131) (p113 : DenS I113 → Bool) (f113 : DenS I113 → DenS O113) (p109 : DenS I109 → Bool) (f109 : DenS I109 → DenS O109) (a0 : Den (.int .i64)) (a1 : Den (.int .u64)) : Option (DenS O110) :=
  bif (p131 (a0, ())) then
  (bif (p113 (a0, (a1, ()))) then
  (bif (p109 (a0, (a1, ()))) then
  (some (((f109 (a0, (a1, ()))).1 && ((Vx.shrI Go.IntKind.u64 (f113 (a0, (a1, ()))).2.2.1 (Go.IntKind.wrap Go.IntKind.u64 (Go.IntKind.wrap Go.IntKind.i64 ((f131 (a0, ())).1.2.1 - (2 : Int))))) == (0 : Int))), ()))
  else none)
  else none)
  else none
theorem r110 (p131 : DenS I131 → Bool) (f131 : DenS I131 → DenS O131) (p113 : DenS I113 → Bool) (f113 : DenS I113 → DenS O113) (p109 : DenS I109 → Bool) (f109 : DenS I109 → DenS O109) (a0 : Den (.int .i64)) (a1 : Den (.int .u64)) :
    run { P := Go.Proofs.Tryz.prog, sums := [(112, ⟨I131, O131, p131, f131⟩), (126, ⟨I113, O113, p113, f113⟩), (64, ⟨I109, O109, p109, f109⟩)], loops := [], globs := G1 } 9 113 Go.Proofs.Tryz.f113 I110 O110 (a0, a1, ()) = t110 p131 f131 p113 f113 p109 f109 a0 a1 := by kernel_rfl
noncomputable def T110 (x : DenS I110) : Option (DenS O110) := t110 S131.pre S131.F S113.pre S113.F S109.pre S109.F x.1 x.2.1
noncomputable def C110 : Cfg := { P := Go.Proofs.Tryz.prog, sums := [(112, S131), (126, S113), (64, S109)], loops := [], globs := G1 }
noncomputable def S110 : Sum := sumOf I110 O110 T110 (DenS.dflt O110)
theorem S110_sound : Sound Go.Proofs.Tryz.prog G1 113 S110 :=
  fn_sound C110 9 113 Go.Proofs.Tryz.f113 mixedOk (by kernel_rfl) (by kernel_rfl) (by kernel_rfl) ⟨S131_sound, ⟨S113_sound, ⟨S109_sound, trivial⟩⟩⟩ trivial I110 O110 T110 _ (fun x => r110 S131.pre S131.F S113.pre S113.F S109.pre S109.F x.1 x.2.1)
/-- vernier/vernierref07.NaNs -/
abbrev I56 : Sig := [(false, .int .i64), (false, .slice (.int .u64))]
abbrev O56 : Sig := [(false, .bool), (false, .int .i64)]
abbrev P56_3 : Pat := ⟨28, [(11, .one (.v .i64)), (10, .one (.sl (.int .u64))), (0, .one (.v .i64)), (12, .one (.v .i64)), (6, .one (.bool)), (7, .one (.v .i64))], []⟩
abbrev A56_3 : List (Nat × Shape) := []
abbrev X56_3 : List (Nat × Pat) := [(0, ⟨28, [(6, .one (.bool)), (7, .one (.v .i64))], []⟩)]
abbrev Q56_3 : Option Pat := none
noncomputable def h56_3 (p109 : DenS I109 → Bool) (f109 : DenS I109 → DenS O109) (p110 : DenS I110 → Bool) (f110 : DenS I110 → DenS O110) {R : Type} (L : Pat.D P56_3 → Option R) (e : OutT X56_3 Q56_3 → Option R) (x : Pat.D P56_3) : Option R :=
  bif (decide (x.1.2.2.2.1 < x.1.1)) then
  (bif ((decide ((0 : Int) ≤ x.1.2.2.2.1)) && (decide (x.1.2.2.2.1 < (x.1.2.1.length : Int)))) then
  (bif ((p109 (x.1.2.2.1, ((x.1.2.1.getD (Int.toNat x.1.2.2.2.1) (0 : Int)), ()))) || (!(bif x.1.2.2.2.2.1 then false else true))) then
  (bif (p110 (x.1.2.2.1, ((x.1.2.1.getD (Int.toNat x.1.2.2.2.1) (0 : Int)), ()))) then
  (bif (f110 (x.1.2.2.1, ((x.1.2.1.getD (Int.toNat x.1.2.2.2.1) (0 : Int)), ()))).1 then
  ((L ((x.1.1, (x.1.2.1, (x.1.2.2.1, ((Go.IntKind.wrap Go.IntKind.i64 (x.1.2.2.2.1 + (1 : Int))), ((x.1.2.2.2.2.1 || (f109 (x.1.2.2.1, ((x.1.2.1.getD (Int.toNat x.1.2.2.2.1) (0 : Int)), ()))).1), ((1 : Int), ())))))), ())))
  else (L ((x.1.1, (x.1.2.1, (x.1.2.2.1, ((Go.IntKind.wrap Go.IntKind.i64 (x.1.2.2.2.1 + (1 : Int))), ((x.1.2.2.2.2.1 || (f109 (x.1.2.2.1, ((x.1.2.1.getD (Int.toNat x.1.2.2.2.1) (0 : Int)), ()))).1), x.1.2.2.2.2.2))))), ())))
  else none)
  else none)
  else none)
  else (e (.inl (x.1.2.2.2.2, ())))
theorem s56_3 (p109 : DenS I109 → Bool) (f109 : DenS I109 → DenS O109) (p110 : DenS I110 → Bool) (f110 : DenS I110 → DenS O110) (w56_3 : Pat.D P56_3 → Option (OutT X56_3 Q56_3)) (d : Nat) (R : Type) (L : Pat.D P56_3 → Option R) (e : OutT X56_3 Q56_3 → Option R) (x : Pat.D P56_3) :
    lStep { P := Go.Proofs.Tryz.prog, sums := [(64, ⟨I109, O109, p109, f109⟩), (113, ⟨I110, O110, p110, f110⟩)], loops := [(46, 3, LoopSpec.of P56_3 A56_3 X56_3 Q56_3 w56_3)], globs := G1 } (d + 2) 46 (bodyOf Go.Proofs.Tryz.f46 3) P56_3 A56_3 X56_3 Q56_3 (R := R) L e x = h56_3 p109 f109 p110 f110 L e x := by kernel_rfl
theorem m56_3 (p109 : DenS I109 → Bool) (f109 : DenS I109 → DenS O109) (p110 : DenS I110 → Bool) (f110 : DenS I110 → DenS O110) : Par fun L e x => h56_3 p109 f109 p110 f110 L e x := by
  intro A B rel L L' e e' h0 hL he x
  unfold h56_3
  repeat' (first | exact h0 | exact hL _ | exact he _ | apply rel_cond | (apply rel_obind h0; intro _) | (apply rel_obind2 <;> intro _))
noncomputable def t56 (p109 : DenS I109 → Bool) (f109 : DenS I109 → DenS O109) (p110 : DenS I110 → Bool) (f110 : DenS I110 → DenS O110) (w56_3 : Pat.D P56_3 → Option (OutT X56_3 Q56_3)) (a0 : Den (.int .i64)) (a1 : Den (.slice (.int .u64))) : Option (DenS O56) :=
  Vx.obind (w56_3 (((a1.length : Int), (a1, (a0, ((0 : Int), (false, ((0 : Int), ())))))), ())) fun y0 =>
  Vx.obind2 y0 (fun y1 =>
  some y1.1) (fun z1 =>
  none)
theorem r56 (p109 : DenS I109 → Bool) (f109 : DenS I109 → DenS O109) (p110 : DenS I110 → Bool) (f110 : DenS I110 → DenS O110) (w56_3 : Pat.D P56_3 → Option (OutT X56_3 Q56_3)) (a0 : Den (.int .i64)) (a1 : Den (.slice (.int .u64))) :
    run { P := Go.Proofs.Tryz.prog, sums := [(64, ⟨I109, O109, p109, f109⟩), (113, ⟨I110, O110, p110, f110⟩)], loops := [(46, 3, LoopSpec.of P56_3 A56_3 X56_3 Q56_3 w56_3)], globs := G1 } 9 46 Go.Proofs.Tryz.f46 I56 O56 (a0, a1, ()) = t56 p109 f109 p110 f110 w56_3 a0 a1 := by kernel_rfl
noncomputable def W56_3 : P56_3.D → Option (OutT X56_3 Q56_3) := lfix fun L => h56_3 S109.pre S109.F S110.pre S110.F L some
noncomputable def T56 (x : DenS I56) : Option (DenS O56) := t56 S109.pre S109.F S110.pre S110.F W56_3 x.1 x.2.1
noncomputable def C56 : Cfg := { P := Go.Proofs.Tryz.prog, sums := [(64, S109), (113, S110)], loops := [(46, 3, LoopSpec.of P56_3 A56_3 X56_3 Q56_3 W56_3)], globs := G1 }
noncomputable def S56 : Sum := sumOf I56 O56 T56 (DenS.dflt O56)
theorem S56_sound : Sound Go.Proofs.Tryz.prog G1 46 S56 :=
  fn_sound C56 9 46 Go.Proofs.Tryz.f46 mixedOk (by kernel_rfl) (by kernel_rfl) (by kernel_rfl) ⟨S109_sound, ⟨S110_sound, trivial⟩⟩ ⟨rfl, fun d => loopOk_of (fun L e x => h56_3 S109.pre S109.F S110.pre S110.F L e x) (m56_3 S109.pre S109.F S110.pre S110.F) (fun R L e x => s56_3 S109.pre S109.F S110.pre S110.F W56_3 d R L e x), trivial⟩ I56 O56 T56 _ (fun x => r56 S109.pre S109.F S110.pre S110.F W56_3 x.1 x.2.1)
/-- vernier/vernierref04.Make -/
abbrev I132 : Sig := [(false, .int .i64), (false, .int .u64), (false, .int .u64), (false, .int .u64)]
abbrev O132 : Sig := [(false, .int .u64)]
noncomputable def t132 (p131 : DenS I131 → Bool) (f131 : DenS I131 → DenS O131) (a0 : Den (.int .i64)) (a1 : Den (.int .u64)) (a2 : Den (.int .u64)) (a3 : Den (.int .u64)) : Option (DenS O132) :=
  bif (p131 (a0, ())) then
  (some ((Vx.orI Go.IntKind.u64 (Vx.orI Go.IntKind.u64 (Vx.shlI Go.IntKind.u64 a1 (Go.IntKind.wrap Go.IntKind.u64 (Go.IntKind.wrap Go.IntKind.i64 ((f131 (a0, ())).1.1 - (1 : Int))))) (Vx.shlI Go.IntKind.u64 a2 (Go.IntKind.wrap Go.IntKind.u64 (Go.IntKind.wrap Go.IntKind.i64 ((f131 (a0, ())).1.2.1 - (1 : Int)))))) a3), ()))
  else none
theorem r132 (p131 : DenS I131 → Bool) (f131 : DenS I131 → DenS O131) (a0 : Den (.int .i64)) (a1 : Den (.int .u64)) (a2 : Den (.int .u64)) (a3 : Den (.int .u64)) :
    run { P := Go.Proofs.Tryz.prog, sums := [(112, ⟨I131, O131, p131, f131⟩)], loops := [], globs := G1 } 9 114 Go.Proofs.Tryz.f114 I132 O132 (a0, a1, a2, a3, ()) = t132 p131 f131 a0 a1 a2 a3 := by kernel_rfl
noncomputable def T132 (x : DenS I132) : Option (DenS O132) := t132 S131.pre S131.F x.1 x.2.1 x.2.2.1 x.2.2.2.1
noncomputable def C132 : Cfg := { P := Go.Proofs.Tryz.prog, sums := [(112, S131)], loops := [], globs := G1 }
noncomputable def S132 : Sum := sumOf I132 O132 T132 (DenS.dflt O132)
theorem S132_sound : Sound Go.Proofs.Tryz.prog G1 114 S132 :=
  fn_sound C132 9 114 Go.Proofs.Tryz.f114 mixedOk (by kernel_rfl) (by kernel_rfl) (by kernel_rfl) ⟨S131_sound, trivial⟩ trivial I132 O132 T132 _ (fun x => r132 S131.pre S131.F x.1 x.2.1 x.2.2.1 x.2.2.2.1)
/-- vernier/vernierref04.NaN -/
abbrev I84 : Sig := [(false, .int .i64)]
abbrev O84 : Sig := [(false, .int .u64)]
noncomputable def t84 (p131 : DenS I131 → Bool) (f131 : DenS I131 → DenS O131) (p132 : DenS I132 → Bool) (f132 : DenS I132 → DenS O132) (a0 : Den (.int .i64)) : Option (DenS O84) :=
  bif (p131 (a0, ())) then
  (bif (p132 (a0, ((0 : Int), ((Go.IntKind.wrap Go.IntKind.u64 (Go.IntKind.wrap Go.IntKind.i64 ((Go.IntKind.wrap Go.IntKind.i64 ((2 : Int) * (f131 (a0, ())).1.2.2.2.1)) + (1 : Int)))), ((Vx.shlI Go.IntKind.u64 (1 : Int) (Go.IntKind.wrap Go.IntKind.u64 (Go.IntKind.wrap Go.IntKind.i64 ((f131 (a0, ())).1.2.1 - (2 : Int))))), ()))))) then
  (some (f132 (a0, ((0 : Int), ((Go.IntKind.wrap Go.IntKind.u64 (Go.IntKind.wrap Go.IntKind.i64 ((Go.IntKind.wrap Go.IntKind.i64 ((2 : Int) * (f131 (a0, ())).1.2.2.2.1)) + (1 : Int)))), ((Vx.shlI Go.IntKind.u64 (1 : Int) (Go.IntKind.wrap Go.IntKind.u64 (Go.IntKind.wrap Go.IntKind.i64 ((f131 (a0, ())).1.2.1 - (2 : Int))))), ()))))))
  else none)
  else none
theorem r84 (p131 : DenS I131 → Bool) (f131 : DenS I131 → DenS O131) (p132 : DenS I132 → Bool) (f132 : DenS I132 → DenS O132) (a0 : Den (.int .i64)) :
    run { P := Go.Proofs.Tryz.prog, sums := [(112, ⟨I131, O131, p131, f131⟩), (114, ⟨I132, O132, p132, f132⟩)], loops := [], globs := G1 } 9 47 Go.Proofs.Tryz.f47 I84 O84 (a0, ()) = t84 p131 f131 p132 f132 a0 := by kernel_rfl
noncomputable def T84 (x : DenS I84) : Option (DenS O84) := t84 S131.pre S131.F S132.pre S132.F x.1
noncomputable def C84 : Cfg := { P := Go.Proofs.Tryz.prog, sums := [(112, S131), (114, S132)], loops := [], globs := G1 }
noncomputable def S84 : Sum := sumOf I84 O84 T84 (DenS.dflt O84)
theorem S84_sound : Sound Go.Proofs.Tryz.prog G1 47 S84 :=
  fn_sound C84 9 47 Go.Proofs.Tryz.f47 mixedOk (by kernel_rfl) (by kernel_rfl) (by kernel_rfl) ⟨S131_sound, ⟨S132_sound, trivial⟩⟩ trivial I84 O84 T84 _ (fun x => r84 S131.pre S131.F S132.pre S132.F x.1)
/-- vernier/vernierref04.IsZero -/
abbrev I86 : Sig := [(false, .int .i64), (false, .int .u64)]
abbrev O86 : Sig := [(false, .bool)]
noncomputable def t86 (p113 : DenS I113 → Bool) (f113 : DenS I113 → DenS O113) (a0 : Den (.int .i64)) (a1 : Den (.int .u64)) : Option (DenS O86) :=
  bif (p113 (a0, (a1, ()))) then
  (some ((((f113 (a0, (a1, ()))).2.1 == (0 : Int)) && ((f113 (a0, (a1, ()))).2.2.1 == (0 : Int))), ()))
  else none
theorem r86 (p113 : DenS I113 → Bool) (f113 : DenS I113 → DenS O113) (a0 : Den (.int .i64)) (a1 : Den (.int .u64)) :
    run { P := Go.Proofs.Tryz.prog, sums := [(126, ⟨I113, O113, p113, f113⟩)], loops := [], globs := G1 } 9 115 Go.Proofs.Tryz.f115 I86 O86 (a0, a1, ()) = t86 p113 f113 a0 a1 := by kernel_rfl
noncomputable def T86 (x : DenS I86) : Option (DenS O86) := t86 S113.pre S113.F x.1 x.2.1
noncomputable def C86 : Cfg := { P := Go.Proofs.Tryz.prog, sums := [(126, S113)], loops := [], globs := G1 }
noncomputable def S86 : Sum := sumOf I86 O86 T86 (DenS.dflt O86)
theorem S86_sound : Sound Go.Proofs.Tryz.prog G1 115 S86 :=
  fn_sound C86 9 115 Go.Proofs.Tryz.f115 mixedOk (by kernel_rfl) (by kernel_rfl) (by kernel_rfl) ⟨S113_sound, trivial⟩ trivial I86 O86 T86 _ (fun x => r86 S113.pre S113.F x.1 x.2.1)
/-- vernier/vernierref04.Least -/
abbrev I367 : Sig := [(false, .int .i64), (false, .int .u64)]
abbrev O367 : Sig := [(false, .int .u64)]
noncomputable def t367 (p132 : DenS I132 → Bool) (f132 : DenS I132 → DenS O132) (a0 : Den (.int .i64)) (a1 : Den (.int .u64)) : Option (DenS O367) :=
  bif (p132 (a0, (a1, ((0 : Int), ((1 : Int), ()))))) then
  (some (f132 (a0, (a1, ((0 : Int), ((1 : Int), ()))))))
  else none
theorem r367 (p132 : DenS I132 → Bool) (f132 : DenS I132 → DenS O132) (a0 : Den (.int .i64)) (a1 : Den (.int .u64)) :
    run { P := Go.Proofs.Tryz.prog, sums := [(114, ⟨I132, O132, p132, f132⟩)], loops := [], globs := G1 } 9 116 Go.Proofs.Tryz.f116 I367 O367 (a0, a1, ()) = t367 p132 f132 a0 a1 := by kernel_rfl
noncomputable def T367 (x : DenS I367) : Option (DenS O367) := t367 S132.pre S132.F x.1 x.2.1
noncomputable def C367 : Cfg := { P := Go.Proofs.Tryz.prog, sums := [(114, S132)], loops := [], globs := G1 }
noncomputable def S367 : Sum := sumOf I367 O367 T367 (DenS.dflt O367)
theorem S367_sound : Sound Go.Proofs.Tryz.prog G1 116 S367 :=
  fn_sound C367 9 116 Go.Proofs.Tryz.f116 mixedOk (by kernel_rfl) (by kernel_rfl) (by kernel_rfl) ⟨S132_sound, trivial⟩ trivial I367 O367 T367 _ (fun x => r367 S132.pre S132.F x.1 x.2.1)
/-- vernier/vernierref04.Sign -/
abbrev I59 : Sig := [(false, .int .i64), (false, .int .u64)]
abbrev O59 : Sig := [(false, .int .u64)]
noncomputable def t59 (p113 : DenS I113 → Bool) (f113 : DenS I113 → DenS O113) (a0 : Den (.int .i64)) (a1 : Den (.int .u64)) : Option (DenS O59) :=
  bif (p113 (a0, (a1, ()))) then
  (some ((f113 (a0, (a1, ()))).1, ()))
  else none
theorem r59 (p113 : DenS I113 → Bool) (f113 : DenS I113 → DenS O113) (a0 : Den (.int .i64)) (a1 : Den (.int .u64)) :
    run { P := Go.Proofs.Tryz.prog, sums := [(126, ⟨I113, O113, p113, f113⟩)], loops := [], globs := G1 } 9 117 Go.Proofs.Tryz.f117 I59 O59 (a0, a1, ()) = t59 p113 f113 a0 a1 := by kernel_rfl
noncomputable def T59 (x : DenS I59) : Option (DenS O59) := t59 S113.pre S113.F x.1 x.2.1
noncomputable def C59 : Cfg := { P := Go.Proofs.Tryz.prog, sums := [(126, S113)], loops := [], globs := G1 }
noncomputable def S59 : Sum := sumOf I59 O59 T59 (DenS.dflt O59)
theorem S59_sound : Sound Go.Proofs.Tryz.prog G1 117 S59 :=
  fn_sound C59 9 117 Go.Proofs.Tryz.f117 mixedOk (by kernel_rfl) (by kernel_rfl) (by kernel_rfl) ⟨S113_sound, trivial⟩ trivial I59 O59 T59 _ (fun x => r59 S113.pre S113.F x.1 x.2.1)
/-- vernier/vernierref04.IsInf -/
abbrev I85 : Sig := [(false, .int .i64), (false, .int .u64)]
abbrev O85 : Sig := [(false, .bool)]
noncomputable def t85 (p113 : DenS I113 → Bool) (f113 : DenS I113 → DenS O113) (a0 : Den (.int .i64)) (a1 : Den (.int .u64)) : Option (DenS O85) :=
  bif (p113 (a0, (a1, ()))) then
  (some ((((f113 (a0, (a1, ()))).2.1 == (f113 (a0, (a1, ()))).2.2.2.1) && ((f113 (a0, (a1, ()))).2.2.1 == (0 : Int))), ()))
  else none
theorem r85 (p113 : DenS I113 → Bool) (f113 : DenS I113 → DenS O113) (a0 : Den (.int .i64)) (a1 : Den (.int .u64)) :
    run { P := Go.Proofs.Tryz.prog, sums := [(126, ⟨I113, O113, p113, f113⟩)], loops := [], globs := G1 } 9 58 Go.Proofs.Tryz.f58 I85 O85 (a0, a1, ()) = t85 p113 f113 a0 a1 := by kernel_rfl
noncomputable def T85 (x : DenS I85) : Option (DenS O85) := t85 S113.pre S113.F x.1 x.2.1
noncomputable def C85 : Cfg := { P := Go.Proofs.Tryz.prog, sums := [(126, S113)], loops := [], globs := G1 }
noncomputable def S85 : Sum := sumOf I85 O85 T85 (DenS.dflt O85)
theorem S85_sound : Sound Go.Proofs.Tryz.prog G1 58 S85 :=
  fn_sound C85 9 58 Go.Proofs.Tryz.f58 mixedOk (by kernel_rfl) (by kernel_rfl) (by kernel_rfl) ⟨S113_sound, trivial⟩ trivial I85 O85 T85 _ (fun x => r85 S113.pre S113.F x.1 x.2.1)
/-- vernier/vernierref13.next -/
abbrev I368 : Sig := [(false, .int .i64), (false, .int .u64)]
abbrev O368 : Sig := [(false, .int .u64)]
noncomputable def t368 (p86 : DenS I86 → Bool) (f86 : DenS I86 → DenS O86) (p367 : DenS I367 → Bool) (f367 : DenS I367 → DenS O367) (p59 : DenS I59 → Bool) (f59 : DenS I59 → DenS O59) (p85 : DenS I85 → Bool) (f85 : DenS I85 → DenS O85) (a0 : Den (.int .i64)) (a1 : Den (.int .u64)) : Option (DenS O368) :=
  bif (p86 (a0, (a1, ()))) then
  (bif (f86 (a0, (a1, ()))).1 then
  (bif (p367 (a0, ((0 : Int), ()))) then
  (some (f367 (a0, ((0 : Int), ()))))
  else none)
  else bif (p59 (a0, (a1, ()))) then
  (bif ((f59 (a0, (a1, ()))).1 == (1 : Int)) then
  (some ((Go.IntKind.wrap Go.IntKind.u64 (a1 - (1 : Int))), ()))
  else bif (p85 (a0, (a1, ()))) then
  (bif (f85 (a0, (a1, ()))).1 then
  (some (a1, ()))
  else some ((Go.IntKind.wrap Go.IntKind.u64 (a1 + (1 : Int))), ()))
  else none)
  else none)
  else none
theorem r368 (p86 : DenS I86 → Bool) (f86 : DenS I86 → DenS O86) (p367 : DenS I367 → Bool) (f367 : DenS I367 → DenS O367) (p59 : DenS I59 → Bool) (f59 : DenS I59 → DenS O59) (p85 : DenS I85 → Bool) (f85 : DenS I85 → DenS O85) (a0 : Den (.int .i64)) (a1 : Den (.int .u64)) :
    run { P := Go.Proofs.Tryz.prog, sums := [(115, ⟨I86, O86, p86, f86⟩), (116, ⟨I367, O367, p367, f367⟩), (117, ⟨I59, O59, p59, f59⟩), (58, ⟨I85, O85, p85, f85⟩)], loops := [], globs := G1 } 9 48 Go.Proofs.Tryz.f48 I368 O368 (a0, a1, ()) = t368 p86 f86 p367 f367 p59 f59 p85 f85 a0 a1 := by kernel_rfl
noncomputable def T368 (x : DenS I368) : Option (DenS O368) := t368 S86.pre S86.F S367.pre S367.F S59.pre S59.F S85.pre S85.F x.1 x.2.1
noncomputable def C368 : Cfg := { P := Go.Proofs.Tryz.prog, sums := [(115, S86), (116, S367), (117, S59), (58, S85)], loops := [], globs := G1 }
noncomputable def S368 : Sum := sumOf I368 O368 T368 (DenS.dflt O368)
theorem S368_sound : Sound Go.Proofs.Tryz.prog G1 48 S368 :=
  fn_sound C368 9 48 Go.Proofs.Tryz.f48 mixedOk (by kernel_rfl) (by kernel_rfl) (by kernel_rfl) ⟨S86_sound, ⟨S367_sound, ⟨S59_sound, ⟨S85_sound, trivial⟩⟩⟩⟩ trivial I368 O368 T368 _ (fun x => r368 S86.pre S86.F S367.pre S367.F S59.pre S59.F S85.pre S85.F x.1 x.2.1)
/-- vernier/vernierref13.NextUp -/
abbrev I369 : Sig := [(false, .int .i64), (false, .int .u64)]
abbrev O369 : Sig := [(false, .int .u64), (false, .int .i64), (false, .int .i64)]
noncomputable def t369 (p108 : DenS I108 → Bool) (f108 : DenS I108 → DenS O108) (p56 : DenS I56 → Bool) (f56 : DenS I56 → DenS O56) (p84 : DenS I84 → Bool) (f84 : DenS I84 → DenS O84) (p368 : DenS I368 → Bool) (f368 : DenS I368 → DenS O368) (a0 : Den (.int .i64)) (a1 : Den (.int .u64)) : Option (DenS O369) :=
  bif (p108 (a0, (a1, ()))) then
  (bif ((f108 (a0, (a1, ()))).1 != (0 : Int)) then
  (some ((0 : Int), ((0 : Int), (f108 (a0, (a1, ()))))))
  else bif (p56 (a0, ((a1 :: []), ()))) then
  (bif (f56 (a0, ((a1 :: []), ()))).1 then
  (bif (p84 (a0, ())) then
  (some ((f84 (a0, ())).1, ((f56 (a0, ((a1 :: []), ()))).2.1, ((0 : Int), ()))))
  else none)
  else bif (p368 (a0, (a1, ()))) then
  (some ((f368 (a0, (a1, ()))).1, ((0 : Int), ((0 : Int), ()))))
  else none)
  else none)
  else none
theorem r369 (p108 : DenS I108 → Bool) (f108 : DenS I108 → DenS O108) (p56 : DenS I56 → Bool) (f56 : DenS I56 → DenS O56) (p84 : DenS I84 → Bool) (f84 : DenS I84 → DenS O84) (p368 : DenS I368 → Bool) (f368 : DenS I368 → DenS O368) (a0 : Den (.int .i64)) (a1 : Den (.int .u64)) :
    run { P := Go.Proofs.Tryz.prog, sums := [(45, ⟨I108, O108, p108, f108⟩), (46, ⟨I56, O56, p56, f56⟩), (47, ⟨I84, O84, p84, f84⟩), (48, ⟨I368, O368, p368, f368⟩)], loops := [], globs := G1 } 9 9 Go.Proofs.Tryz.f9 I369 O369 (a0, a1, ()) = t369 p108 f108 p56 f56 p84 f84 p368 f368 a0 a1 := by kernel_rfl
noncomputable def T369 (x : DenS I369) : Option (DenS O369) := t369 S108.pre S108.F S56.pre S56.F S84.pre S84.F S368.pre S368.F x.1 x.2.1
noncomputable def C369 : Cfg := { P := Go.Proofs.Tryz.prog, sums := [(45, S108), (46, S56), (47, S84), (48, S368)], loops := [], globs := G1 }
noncomputable def S369 : Sum := sumOf I369 O369 T369 (DenS.dflt O369)
theorem S369_sound : Sound Go.Proofs.Tryz.prog G1 9 S369 :=
  fn_sound C369 9 9 Go.Proofs.Tryz.f9 mixedOk (by kernel_rfl) (by kernel_rfl) (by kernel_rfl) ⟨S108_sound, ⟨S56_sound, ⟨S84_sound, ⟨S368_sound, trivial⟩⟩⟩⟩ trivial I369 O369 T369 _ (fun x => r369 S108.pre S108.F S56.pre S56.F S84.pre S84.F S368.pre S368.F x.1 x.2.1)
/-- vernier/order.both -/
abbrev I52 : Sig := [(false, .int .i64), (false, .int .u64), (false, .int .u64)]
abbrev O52 : Sig := [(true, .pair (.int .i64) (.pair (.int .i64) (.unit))), (true, .pair (.int .i64) (.pair (.int .i64) (.unit))), (false, .int .i64)]
noncomputable def t52 (p82 : DenS I82 → Bool) (f82 : DenS I82 → DenS O82) (a0 : Den (.int .i64)) (a1 : Den (.int .u64)) (a2 : Den (.int .u64)) : Option (DenS O52) :=
  bif (p82 (a0, (a1, ()))) then
  (bif ((f82 (a0, (a1, ()))).2.1 != (0 : Int)) then
  (some ((f82 (a0, (a1, ()))).1, (((0 : Int), ((0 : Int), ())), (f82 (a0, (a1, ()))).2)))
  else bif (p82 (a0, (a2, ()))) then
  (some ((f82 (a0, (a1, ()))).1, (f82 (a0, (a2, ())))))
  else none)
  else none
theorem r52 (p82 : DenS I82 → Bool) (f82 : DenS I82 → DenS O82) (a0 : Den (.int .i64)) (a1 : Den (.int .u64)) (a2 : Den (.int .u64)) :
    run { P := Go.Proofs.Tryz.prog, sums := [(50, ⟨I82, O82, p82, f82⟩)], loops := [], globs := G1 } 9 103 Go.Proofs.Tryz.f103 I52 O52 (a0, a1, a2, ()) = t52 p82 f82 a0 a1 a2 := by kernel_rfl
noncomputable def T52 (x : DenS I52) : Option (DenS O52) := t52 S82.pre S82.F x.1 x.2.1 x.2.2.1
noncomputable def C52 : Cfg := { P := Go.Proofs.Tryz.prog, sums := [(50, S82)], loops := [], globs := G1 }
noncomputable def S52 : Sum := sumOf I52 O52 T52 (DenS.dflt O52)
theorem S52_sound : Sound Go.Proofs.Tryz.prog G1 103 S52 :=
  fn_sound C52 9 103 Go.Proofs.Tryz.f103 mixedOk (by kernel_rfl) (by kernel_rfl) (by kernel_rfl) ⟨S82_sound, trivial⟩ trivial I52 O52 T52 _ (fun x => r52 S82.pre S82.F x.1 x.2.1 x.2.2.1)
/-- vernier/order.Compare -/
abbrev I14 : Sig := [(false, .int .i64), (false, .int .u64), (false, .int .u64), (false, .bool)]
abbrev O14 : Sig := [(false, .int .i64), (false, .int .i64), (false, .int .i64)]
noncomputable def t14 (p52 : DenS I52 → Bool) (f52 : DenS I52 → DenS O52) (p53 : DenS I53 → Bool) (f53 : DenS I53 → DenS O53) (p54 : DenS I54 → Bool) (f54 : DenS I54 → DenS O54) (a0 : Den (.int .i64)) (a1 : Den (.int .u64)) (a2 : Den (.int .u64)) (a3 : Den (.bool)) : Option (DenS O14) :=
  bif (p52 (a0, (a1, (a2, ())))) then
  (bif ((f52 (a0, (a1, (a2, ())))).2.2.1 != (0 : Int)) then
  (some ((0 : Int), ((0 : Int), (f52 (a0, (a1, (a2, ())))).2.2)))
  else bif (p53 ((f52 (a0, (a1, (a2, ())))).1, ())) then
  (bif ((p53 ((f52 (a0, (a1, (a2, ())))).2.1, ())) || (!(bif (f53 ((f52 (a0, (a1, (a2, ())))).1, ())).1 then false else true))) then
  (bif ((f53 ((f52 (a0, (a1, (a2, ())))).1, ())).1 || (f53 ((f52 (a0, (a1, (a2, ())))).2.1, ())).1) then
  (bif (p54 ((f52 (a0, (a1, (a2, ())))).1, ((f52 (a0, (a1, (a2, ())))).2.1, ()))) then
  (bif a3 then
  (some ((3 : Int), ((1 : Int), ((0 : Int), ()))))
  else some ((3 : Int), ((f54 ((f52 (a0, (a1, (a2, ())))).1, ((f52 (a0, (a1, (a2, ())))).2.1, ()))).1, ((0 : Int), ()))))
  else none)
  else bif (decide ((f52 (a0, (a1, (a2, ())))).1.2.1 < (f52 (a0, (a1, (a2, ())))).2.1.2.1)) then
  (some ((0 : Int), ((0 : Int), ((0 : Int), ()))))
  else bif (decide ((f52 (a0, (a1, (a2, ())))).1.2.1 > (f52 (a0, (a1, (a2, ())))).2.1.2.1)) then
  (some ((2 : Int), ((0 : Int), ((0 : Int), ()))))
  else some ((1 : Int), ((0 : Int), ((0 : Int), ()))))
  else none)
  else none)
  else none
theorem r14 (p52 : DenS I52 → Bool) (f52 : DenS I52 → DenS O52) (p53 : DenS I53 → Bool) (f53 : DenS I53 → DenS O53) (p54 : DenS I54 → Bool) (f54 : DenS I54 → DenS O54) (a0 : Den (.int .i64)) (a1 : Den (.int .u64)) (a2 : Den (.int .u64)) (a3 : Den (.bool)) :
    run { P := Go.Proofs.Tryz.prog, sums := [(103, ⟨I52, O52, p52, f52⟩), (51, ⟨I53, O53, p53, f53⟩), (52, ⟨I54, O54, p54, f54⟩)], loops := [], globs := G1 } 9 33 Go.Proofs.Tryz.f33 I14 O14 (a0, a1, a2, a3, ()) = t14 p52 f52 p53 f53 p54 f54 a0 a1 a2 a3 := by kernel_rfl
noncomputable def T14 (x : DenS I14) : Option (DenS O14) := t14 S52.pre S52.F S53.pre S53.F S54.pre S54.F x.1 x.2.1 x.2.2.1 x.2.2.2.1
noncomputable def C14 : Cfg := { P := Go.Proofs.Tryz.prog, sums := [(103, S52), (51, S53), (52, S54)], loops := [], globs := G1 }
noncomputable def S14 : Sum := sumOf I14 O14 T14 (DenS.dflt O14)
theorem S14_sound : Sound Go.Proofs.Tryz.prog G1 33 S14 :=
  fn_sound C14 9 33 Go.Proofs.Tryz.f33 mixedOk (by kernel_rfl) (by kernel_rfl) (by kernel_rfl) ⟨S52_sound, ⟨S53_sound, ⟨S54_sound, trivial⟩⟩⟩ trivial I14 O14 T14 _ (fun x => r14 S52.pre S52.F S53.pre S53.F S54.pre S54.F x.1 x.2.1 x.2.2.1 x.2.2.2.1)
/-- vernier/vernierlaw13.fixed -/
abbrev I16 : Sig := []
abbrev O16 : Sig := [(false, .bool)]
noncomputable def t16 (p14 : DenS I14 → Bool) (f14 : DenS I14 → DenS O14) (p41 : DenS I41 → Bool) (f41 : DenS I41 → DenS O41) : Option (DenS O16) :=
  bif (p14 ((0 : Int), ((32256 : Int), ((0 : Int), (true, ()))))) then
  (bif (p41 ((0 : Int), ((32769 : Int), ()))) then
  (some ((((((((f14 ((0 : Int), ((32256 : Int), ((0 : Int), (true, ()))))).1 == (3 : Int)) && ((f14 ((0 : Int), ((32256 : Int), ((0 : Int), (true, ()))))).2.1 == (1 : Int))) && ((f14 ((0 : Int), ((32256 : Int), ((0 : Int), (true, ()))))).2.2.1 == (0 : Int))) && ((f41 ((0 : Int), ((32769 : Int), ()))).1 == (32768 : Int))) && ((f41 ((0 : Int), ((32769 : Int), ()))).2.1 == (0 : Int))) && ((f41 ((0 : Int), ((32769 : Int), ()))).2.2.1 == (0 : Int))), ()))
  else none)
  else none
theorem r16 (p14 : DenS I14 → Bool) (f14 : DenS I14 → DenS O14) (p41 : DenS I41 → Bool) (f41 : DenS I41 → DenS O41) :
    run { P := Go.Proofs.Tryz.prog, sums := [(33, ⟨I14, O14, p14, f14⟩), (8, ⟨I41, O41, p41, f41⟩)], loops := [], globs := G1 } 9 10 Go.Proofs.Tryz.f10 I16 O16 (()) = t16 p14 f14 p41 f41 := by kernel_rfl
noncomputable def T16 (x : DenS I16) : Option (DenS O16) := t16 S14.pre S14.F S41.pre S41.F
noncomputable def C16 : Cfg := { P := Go.Proofs.Tryz.prog, sums := [(33, S14), (8, S41)], loops := [], globs := G1 }
noncomputable def S16 : Sum := sumOf I16 O16 T16 (DenS.dflt O16)
theorem S16_sound : Sound Go.Proofs.Tryz.prog G1 10 S16 :=
  fn_sound C16 9 10 Go.Proofs.Tryz.f10 mixedOk (by kernel_rfl) (by kernel_rfl) (by kernel_rfl) ⟨S14_sound, ⟨S41_sound, trivial⟩⟩ trivial I16 O16 T16 _ (fun x => r16 S14.pre S14.F S41.pre S41.F)
/-- vernier/order.NextDown -/
abbrev I42 : Sig := [(false, .int .i64), (false, .int .u64)]
abbrev O42 : Sig := [(false, .int .u64), (false, .int .i64), (false, .int .i64)]
noncomputable def t42 (p93 : DenS I93 → Bool) (f93 : DenS I93 → DenS O93) (a0 : Den (.int .i64)) (a1 : Den (.int .u64)) : Option (DenS O42) :=
  bif (p93 (a0, (a1, ((-(1 : Int)), ())))) then
  (some (f93 (a0, (a1, ((-(1 : Int)), ())))))
  else none
theorem r42 (p93 : DenS I93 → Bool) (f93 : DenS I93 → DenS O93) (a0 : Den (.int .i64)) (a1 : Den (.int .u64)) :
    run { P := Go.Proofs.Tryz.prog, sums := [(44, ⟨I93, O93, p93, f93⟩)], loops := [], globs := G1 } 9 11 Go.Proofs.Tryz.f11 I42 O42 (a0, a1, ()) = t42 p93 f93 a0 a1 := by kernel_rfl
noncomputable def T42 (x : DenS I42) : Option (DenS O42) := t42 S93.pre S93.F x.1 x.2.1
noncomputable def C42 : Cfg := { P := Go.Proofs.Tryz.prog, sums := [(44, S93)], loops := [], globs := G1 }
noncomputable def S42 : Sum := sumOf I42 O42 T42 (DenS.dflt O42)
theorem S42_sound : Sound Go.Proofs.Tryz.prog G1 11 S42 :=
  fn_sound C42 9 11 Go.Proofs.Tryz.f11 mixedOk (by kernel_rfl) (by kernel_rfl) (by kernel_rfl) ⟨S93_sound, trivial⟩ trivial I42 O42 T42 _ (fun x => r42 S93.pre S93.F x.1 x.2.1)
/-- vernier/vernierref04.Turn -/
abbrev I370 : Sig := [(false, .int .i64), (false, .int .u64)]
abbrev O370 : Sig := [(false, .int .u64)]
noncomputable def t370 (p131 : DenS I131 → Bool) (f131 : DenS I131 → DenS O131) (a0 : Den (.int .i64)) (a1 : Den (.int .u64)) : Option (DenS O370) :=
  bif (p131 (a0, ())) then
  (some ((Vx.xorI Go.IntKind.u64 a1 (Vx.shlI Go.IntKind.u64 (1 : Int) (Go.IntKind.wrap Go.IntKind.u64 (Go.IntKind.wrap Go.IntKind.i64 ((f131 (a0, ())).1.1 - (1 : Int)))))), ()))
  else none
theorem r370 (p131 : DenS I131 → Bool) (f131 : DenS I131 → DenS O131) (a0 : Den (.int .i64)) (a1 : Den (.int .u64)) :
    run { P := Go.Proofs.Tryz.prog, sums := [(112, ⟨I131, O131, p131, f131⟩)], loops := [], globs := G1 } 9 49 Go.Proofs.Tryz.f49 I370 O370 (a0, a1, ()) = t370 p131 f131 a0 a1 := by kernel_rfl
noncomputable def T370 (x : DenS I370) : Option (DenS O370) := t370 S131.pre S131.F x.1 x.2.1
noncomputable def C370 : Cfg := { P := Go.Proofs.Tryz.prog, sums := [(112, S131)], loops := [], globs := G1 }
noncomputable def S370 : Sum := sumOf I370 O370 T370 (DenS.dflt O370)
theorem S370_sound : Sound Go.Proofs.Tryz.prog G1 49 S370 :=
  fn_sound C370 9 49 Go.Proofs.Tryz.f49 mixedOk (by kernel_rfl) (by kernel_rfl) (by kernel_rfl) ⟨S131_sound, trivial⟩ trivial I370 O370 T370 _ (fun x => r370 S131.pre S131.F x.1 x.2.1)
/-- vernier/vernierref13.NextDown -/
abbrev I371 : Sig := [(false, .int .i64), (false, .int .u64)]
abbrev O371 : Sig := [(false, .int .u64), (false, .int .i64), (false, .int .i64)]
noncomputable def t371 (p108 : DenS I108 → Bool) (f108 : DenS I108 → DenS O108) (p56 : DenS I56 → Bool) (f56 : DenS I56 → DenS O56) (p84 : DenS I84 → Bool) (f84 : DenS I84 → DenS O84) (p368 : DenS I368 → Bool) (f368 : DenS I368 → DenS O368) (p370 : DenS I370 → Bool) (f370 : DenS I370 → DenS O370) (a0 : Den (.int .i64)) (a1 : Den (.int .u64)) : Option (DenS O371) :=
  bif (p108 (a0, (a1, ()))) then
  (bif ((f108 (a0, (a1, ()))).1 != (0 : Int)) then
  (some ((0 : Int), ((0 : Int), (f108 (a0, (a1, ()))))))
  else bif (p56 (a0, ((a1 :: []), ()))) then
  (bif (f56 (a0, ((a1 :: []), ()))).1 then
  (bif (p84 (a0, ())) then
  (some ((f84 (a0, ())).1, ((f56 (a0, ((a1 :: []), ()))).2.1, ((0 : Int), ()))))
  else none)
  else bif (p370 (a0, (a1, ()))) then
  (bif (p368 (a0, (f370 (a0, (a1, ()))))) then
  (bif (p370 (a0, (f368 (a0, (f370 (a0, (a1, ()))))))) then
  (some ((f370 (a0, (f368 (a0, (f370 (a0, (a1, ()))))))).1, ((0 : Int), ((0 : Int), ()))))
  else none)
  else none)
  else none)
  else none)
  else none
theorem r371 (p108 : DenS I108 → Bool) (f108 : DenS I108 → DenS O108) (p56 : DenS I56 → Bool) (f56 : DenS I56 → DenS O56) (p84 : DenS I84 → Bool) (f84 : DenS I84 → DenS O84) (p368 : DenS I368 → Bool) (f368 : DenS I368 → DenS O368) (p370 : DenS I370 → Bool) (f370 : DenS I370 → DenS O370) (a0 : Den (.int .i64)) (a1 : Den (.int .u64)) :
    run { P := Go.Proofs.Tryz.prog, sums := [(45, ⟨I108, O108, p108, f108⟩), (46, ⟨I56, O56, p56, f56⟩), (47, ⟨I84, O84, p84, f84⟩), (48, ⟨I368, O368, p368, f368⟩), (49, ⟨I370, O370, p370, f370⟩)], loops := [], globs := G1 } 9 12 Go.Proofs.Tryz.f12 I371 O371 (a0, a1, ()) = t371 p108 f108 p56 f56 p84 f84 p368 f368 p370 f370 a0 a1 := by kernel_rfl
noncomputable def T371 (x : DenS I371) : Option (DenS O371) := t371 S108.pre S108.F S56.pre S56.F S84.pre S84.F S368.pre S368.F S370.pre S370.F x.1 x.2.1
noncomputable def C371 : Cfg := { P := Go.Proofs.Tryz.prog, sums := [(45, S108), (46, S56), (47, S84), (48, S368), (49, S370)], loops := [], globs := G1 }
noncomputable def S371 : Sum := sumOf I371 O371 T371 (DenS.dflt O371)
theorem S371_sound : Sound Go.Proofs.Tryz.prog G1 12 S371 :=
  fn_sound C371 9 12 Go.Proofs.Tryz.f12 mixedOk (by kernel_rfl) (by kernel_rfl) (by kernel_rfl) ⟨S108_sound, ⟨S56_sound, ⟨S84_sound, ⟨S368_sound, ⟨S370_sound, trivial⟩⟩⟩⟩⟩ trivial I371 O371 T371 _ (fun x => r371 S108.pre S108.F S56.pre S56.F S84.pre S84.F S368.pre S368.F S370.pre S370.F x.1 x.2.1)
/-- vernier/format.Infinity -/
abbrev I97 : Sig := [(false, .int .i64), (false, .bool)]
abbrev O97 : Sig := [(false, .int .u64), (false, .int .i64)]
noncomputable def t97 (p116 : DenS I116 → Bool) (f116 : DenS I116 → DenS O116) (p69 : DenS I69 → Bool) (f69 : DenS I69 → DenS O69) (p91 : DenS I91 → Bool) (f91 : DenS I91 → DenS O91) (p140 : DenS I140 → Bool) (f140 : DenS I140 → DenS O140) (a0 : Den (.int .i64)) (a1 : Den (.bool)) : Option (DenS O97) :=
  bif (p69 (a0, ())) then
  (bif ((f69 (a0, ())).2.1 != (0 : Int)) then
  (some ((0 : Int), (f69 (a0, ())).2))
  else bif (p91 ((Go.IntKind.wrap Go.IntKind.i64 ((f69 (a0, ())).1.1 - (f69 (a0, ())).1.2.1)), ())) then
  (bif (p116 ((f69 (a0, ())).1, ())) then
  (bif (p116 ((f69 (a0, ())).1, ())) then
  (bif (p140 ((f69 (a0, ())).1, (a1, ((Go.IntKind.wrap Go.IntKind.u64 ((f91 ((Go.IntKind.wrap Go.IntKind.i64 ((f69 (a0, ())).1.1 - (f69 (a0, ())).1.2.1)), ())).1 - (f116 ((f69 (a0, ())).1, ())).1)), (f116 ((f69 (a0, ())).1, ())))))) then
  (some ((f140 ((f69 (a0, ())).1, (a1, ((Go.IntKind.wrap Go.IntKind.u64 ((f91 ((Go.IntKind.wrap Go.IntKind.i64 ((f69 (a0, ())).1.1 - (f69 (a0, ())).1.2.1)), ())).1 - (f116 ((f69 (a0, ())).1, ())).1)), (f116 ((f69 (a0, ())).1, ())))))).1, ((0 : Int), ())))
  else none)
  else none)
  else none)
  else none)
  else none
theorem r97 (p116 : DenS I116 → Bool) (f116 : DenS I116 → DenS O116) (p69 : DenS I69 → Bool) (f69 : DenS I69 → DenS O69) (p91 : DenS I91 → Bool) (f91 : DenS I91 → DenS O91) (p140 : DenS I140 → Bool) (f140 : DenS I140 → DenS O140) (a0 : Den (.int .i64)) (a1 : Den (.bool)) :
    run { P := Go.Proofs.Tryz.prog, sums := [(120, ⟨I116, O116, p116, f116⟩), (55, ⟨I69, O69, p69, f69⟩), (134, ⟨I91, O91, p91, f91⟩), (160, ⟨I140, O140, p140, f140⟩)], loops := [], globs := G1 } 9 54 Go.Proofs.Tryz.f54 I97 O97 (a0, a1, ()) = t97 p116 f116 p69 f69 p91 f91 p140 f140 a0 a1 := by kernel_rfl
noncomputable def T97 (x : DenS I97) : Option (DenS O97) := t97 S116.pre S116.F S69.pre S69.F S91.pre S91.F S140.pre S140.F x.1 x.2.1
noncomputable def C97 : Cfg := { P := Go.Proofs.Tryz.prog, sums := [(120, S116), (55, S69), (134, S91), (160, S140)], loops := [], globs := G1 }
noncomputable def S97 : Sum := sumOf I97 O97 T97 (DenS.dflt O97)
theorem S97_sound : Sound Go.Proofs.Tryz.prog G1 54 S97 :=
  fn_sound C97 9 54 Go.Proofs.Tryz.f54 mixedOk (by kernel_rfl) (by kernel_rfl) (by kernel_rfl) ⟨S116_sound, ⟨S69_sound, ⟨S91_sound, ⟨S140_sound, trivial⟩⟩⟩⟩ trivial I97 O97 T97 _ (fun x => r97 S116.pre S116.F S69.pre S69.F S91.pre S91.F S140.pre S140.F x.1 x.2.1)
/-- vernier/format.Fields -/
abbrev I98 : Sig := [(false, .int .i64), (false, .int .u64)]
abbrev O98 : Sig := [(false, .bool), (false, .int .u64), (false, .int .u64), (false, .int .i64)]
noncomputable def t98 (p66 : DenS I66 → Bool) (f66 : DenS I66 → DenS O66) (p90 : DenS I90 → Bool) (f90 : DenS I90 → DenS O90) (a0 : Den (.int .i64)) (a1 : Den (.int .u64)) : Option (DenS O98) :=
  bif (p66 (a0, (a1, ()))) then
  (bif ((f66 (a0, (a1, ()))).1 != (0 : Int)) then
  (some (false, ((0 : Int), ((0 : Int), (f66 (a0, (a1, ())))))))
  else bif (bif (decide ((0 : Int) ≤ a0)) then (decide (a0 < ((4 : Nat) : Int))) else false) then
  (bif (p90 ((Vx.k_rows.getD (Int.toNat a0) ((0 : Int), ((0 : Int), ((0 : Int), ((0 : Int), ()))))), (a1, ()))) then
  (some ((f90 ((Vx.k_rows.getD (Int.toNat a0) ((0 : Int), ((0 : Int), ((0 : Int), ((0 : Int), ()))))), (a1, ()))).1, ((f90 ((Vx.k_rows.getD (Int.toNat a0) ((0 : Int), ((0 : Int), ((0 : Int), ((0 : Int), ()))))), (a1, ()))).2.1, ((f90 ((Vx.k_rows.getD (Int.toNat a0) ((0 : Int), ((0 : Int), ((0 : Int), ((0 : Int), ()))))), (a1, ()))).2.2.1, ((0 : Int), ())))))
  else none)
  else none)
  else none
theorem r98 (p66 : DenS I66 → Bool) (f66 : DenS I66 → DenS O66) (p90 : DenS I90 → Bool) (f90 : DenS I90 → DenS O90) (a0 : Den (.int .i64)) (a1 : Den (.int .u64)) :
    run { P := Go.Proofs.Tryz.prog, sums := [(83, ⟨I66, O66, p66, f66⟩), (122, ⟨I90, O90, p90, f90⟩)], loops := [], globs := G1 } 9 56 Go.Proofs.Tryz.f56 I98 O98 (a0, a1, ()) = t98 p66 f66 p90 f90 a0 a1 := by kernel_rfl
noncomputable def T98 (x : DenS I98) : Option (DenS O98) := t98 S66.pre S66.F S90.pre S90.F x.1 x.2.1
noncomputable def C98 : Cfg := { P := Go.Proofs.Tryz.prog, sums := [(83, S66), (122, S90)], loops := [], globs := G1 }
noncomputable def S98 : Sum := sumOf I98 O98 T98 (DenS.dflt O98)
theorem S98_sound : Sound Go.Proofs.Tryz.prog G1 56 S98 :=
  fn_sound C98 9 56 Go.Proofs.Tryz.f56 mixedOk (by kernel_rfl) (by kernel_rfl) (by kernel_rfl) ⟨S66_sound, ⟨S90_sound, trivial⟩⟩ trivial I98 O98 T98 _ (fun x => r98 S66.pre S66.F S90.pre S90.F x.1 x.2.1)
/-- vernier/round.modeError -/
abbrev I147 : Sig := [(false, .int .i64)]
abbrev O147 : Sig := [(false, .int .i64)]
noncomputable def t147 (a0 : Den (.int .i64)) : Option (DenS O147) :=
  bif ((decide (a0 < (0 : Int))) || (decide (a0 > (5 : Int)))) then
  (some ((3 : Int), ()))
  else some ((0 : Int), ())
theorem r147 (a0 : Den (.int .i64)) :
    run { P := Go.Proofs.Tryz.prog, sums := [], loops := [], globs := G1 } 9 161 Go.Proofs.Tryz.f161 I147 O147 (a0, ()) = t147 a0 := by kernel_rfl
noncomputable def T147 (x : DenS I147) : Option (DenS O147) := t147 x.1
noncomputable def C147 : Cfg := { P := Go.Proofs.Tryz.prog, sums := [], loops := [], globs := G1 }
noncomputable def S147 : Sum := sumOf I147 O147 T147 (DenS.dflt O147)
theorem S147_sound : Sound Go.Proofs.Tryz.prog G1 161 S147 :=
  fn_sound C147 9 161 Go.Proofs.Tryz.f161 mixedOk (by kernel_rfl) (by kernel_rfl) (by kernel_rfl) trivial trivial I147 O147 T147 _ (fun x => r147 x.1)
/-- vernier/round.refuses -/
abbrev I105 : Sig := [(false, .int .i64), (false, .int .i64)]
abbrev O105 : Sig := [(true, .pair (.int .i64) (.pair (.int .i64) (.pair (.int .i64) (.pair (.int .i64) (.unit))))), (false, .int .i64)]
noncomputable def t105 (p69 : DenS I69 → Bool) (f69 : DenS I69 → DenS O69) (p147 : DenS I147 → Bool) (f147 : DenS I147 → DenS O147) (a0 : Den (.int .i64)) (a1 : Den (.int .i64)) : Option (DenS O105) :=
  bif (p69 (a0, ())) then
  (bif ((f69 (a0, ())).2.1 != (0 : Int)) then
  (some (f69 (a0, ())))
  else bif (p147 (a1, ())) then
  (some ((f69 (a0, ())).1, (f147 (a1, ()))))
  else none)
  else none
theorem r105 (p69 : DenS I69 → Bool) (f69 : DenS I69 → DenS O69) (p147 : DenS I147 → Bool) (f147 : DenS I147 → DenS O147) (a0 : Den (.int .i64)) (a1 : Den (.int .i64)) :
    run { P := Go.Proofs.Tryz.prog, sums := [(55, ⟨I69, O69, p69, f69⟩), (161, ⟨I147, O147, p147, f147⟩)], loops := [], globs := G1 } 9 123 Go.Proofs.Tryz.f123 I105 O105 (a0, a1, ()) = t105 p69 f69 p147 f147 a0 a1 := by kernel_rfl
noncomputable def T105 (x : DenS I105) : Option (DenS O105) := t105 S69.pre S69.F S147.pre S147.F x.1 x.2.1
noncomputable def C105 : Cfg := { P := Go.Proofs.Tryz.prog, sums := [(55, S69), (161, S147)], loops := [], globs := G1 }
noncomputable def S105 : Sum := sumOf I105 O105 T105 (DenS.dflt O105)
theorem S105_sound : Sound Go.Proofs.Tryz.prog G1 123 S105 :=
  fn_sound C105 9 123 Go.Proofs.Tryz.f123 mixedOk (by kernel_rfl) (by kernel_rfl) (by kernel_rfl) ⟨S69_sound, ⟨S147_sound, trivial⟩⟩ trivial I105 O105 T105 _ (fun x => r105 S69.pre S69.F S147.pre S147.F x.1 x.2.1)
/-- vernier/dyad.refuses -/
abbrev I103 : Sig := [(true, .pair (.bool) (.pair (.slice (.int .u64)) (.pair (.int .i64) (.unit))))]
abbrev O103 : Sig := [(false, .int .i64)]
noncomputable def t103 (a0 : Den (.pair (.bool) (.pair (.slice (.int .u64)) (.pair (.int .i64) (.unit))))) : Option (DenS O103) :=
  bif (decide ((a0.2.1.length : Int) > (1024 : Int))) then
  (some ((5 : Int), ()))
  else bif ((decide (a0.2.2.1 < (-(40000 : Int)))) || (decide (a0.2.2.1 > (40000 : Int)))) then
  (some ((30 : Int), ()))
  else some ((0 : Int), ())
theorem r103 (a0 : Den (.pair (.bool) (.pair (.slice (.int .u64)) (.pair (.int .i64) (.unit))))) :
    run { P := Go.Proofs.Tryz.prog, sums := [], loops := [], globs := G1 } 9 162 Go.Proofs.Tryz.f162 I103 O103 (a0, ()) = t103 a0 := by kernel_rfl
noncomputable def T103 (x : DenS I103) : Option (DenS O103) := t103 x.1
noncomputable def C103 : Cfg := { P := Go.Proofs.Tryz.prog, sums := [], loops := [], globs := G1 }
noncomputable def S103 : Sum := sumOf I103 O103 T103 (DenS.dflt O103)
theorem S103_sound : Sound Go.Proofs.Tryz.prog G1 162 S103 :=
  fn_sound C103 9 162 Go.Proofs.Tryz.f162 mixedOk (by kernel_rfl) (by kernel_rfl) (by kernel_rfl) trivial trivial I103 O103 T103 _ (fun x => r103 x.1)
/-- vernier/nat.trim -/
abbrev I173 : Sig := [(false, .slice (.int .u64))]
abbrev O173 : Sig := [(false, .slice (.int .u64))]
abbrev P173_2 : Pat := ⟨21, [(0, .one (.sl (.int .u64))), (3, .one (.v .i64))], []⟩
abbrev A173_2 : List (Nat × Shape) := []
abbrev X173_2 : List (Nat × Pat) := [(0, ⟨21, [(0, .one (.sl (.int .u64))), (3, .one (.v .i64))], []⟩)]
abbrev Q173_2 : Option Pat := none
noncomputable def h173_2 {R : Type} (L : Pat.D P173_2 → Option R) (e : OutT X173_2 Q173_2 → Option R) (x : Pat.D P173_2) : Option R :=
  bif (((decide ((0 : Int) ≤ (Go.IntKind.wrap Go.IntKind.i64 (x.1.2.1 - (1 : Int))))) && (decide ((Go.IntKind.wrap Go.IntKind.i64 (x.1.2.1 - (1 : Int))) < (x.1.1.length : Int)))) || (!(decide (x.1.2.1 > (0 : Int))))) then
  (bif ((decide (x.1.2.1 > (0 : Int))) && ((x.1.1.getD (Int.toNat (Go.IntKind.wrap Go.IntKind.i64 (x.1.2.1 - (1 : Int)))) (0 : Int)) == (0 : Int))) then
  ((L ((x.1.1, ((Go.IntKind.wrap Go.IntKind.i64 (x.1.2.1 - (1 : Int))), ())), ())))
  else (e (.inl (x.1, ()))))
  else none
theorem s173_2 (w173_2 : Pat.D P173_2 → Option (OutT X173_2 Q173_2)) (d : Nat) (R : Type) (L : Pat.D P173_2 → Option R) (e : OutT X173_2 Q173_2 → Option R) (x : Pat.D P173_2) :
    lStep { P := Go.Proofs.Tryz.prog, sums := [], loops := [(188, 2, LoopSpec.of P173_2 A173_2 X173_2 Q173_2 w173_2)], globs := G1 } (d + 2) 188 (bodyOf Go.Proofs.Tryz.f188 2) P173_2 A173_2 X173_2 Q173_2 (R := R) L e x = h173_2 L e x := by kernel_rfl
theorem m173_2 : Par fun L e x => h173_2 L e x := by
  intro A B rel L L' e e' h0 hL he x
  unfold h173_2
  repeat' (first | exact h0 | exact hL _ | exact he _ | apply rel_cond | (apply rel_obind h0; intro _) | (apply rel_obind2 <;> intro _))
noncomputable def t173 (w173_2 : Pat.D P173_2 → Option (OutT X173_2 Q173_2)) (a0 : Den (.slice (.int .u64))) : Option (DenS O173) :=
  Vx.obind (w173_2 ((a0, ((a0.length : Int), ())), ())) fun y0 =>
  Vx.obind2 y0 (fun y1 =>
  bif ((decide ((0 : Int) ≤ y1.1.2.1)) && (decide (y1.1.2.1 ≤ (y1.1.1.length : Int)))) then
  (some (((y1.1.1.take (Int.toNat y1.1.2.1)).drop (Int.toNat (0 : Int))), ()))
  else none) (fun z1 =>
  none)
theorem r173 (w173_2 : Pat.D P173_2 → Option (OutT X173_2 Q173_2)) (a0 : Den (.slice (.int .u64))) :
    run { P := Go.Proofs.Tryz.prog, sums := [], loops := [(188, 2, LoopSpec.of P173_2 A173_2 X173_2 Q173_2 w173_2)], globs := G1 } 9 188 Go.Proofs.Tryz.f188 I173 O173 (a0, ()) = t173 w173_2 a0 := by kernel_rfl
noncomputable def W173_2 : P173_2.D → Option (OutT X173_2 Q173_2) := lfix fun L => h173_2 L some
noncomputable def T173 (x : DenS I173) : Option (DenS O173) := t173 W173_2 x.1
noncomputable def C173 : Cfg := { P := Go.Proofs.Tryz.prog, sums := [], loops := [(188, 2, LoopSpec.of P173_2 A173_2 X173_2 Q173_2 W173_2)], globs := G1 }
noncomputable def S173 : Sum := sumOf I173 O173 T173 (DenS.dflt O173)
theorem S173_sound : Sound Go.Proofs.Tryz.prog G1 188 S173 :=
  fn_sound C173 9 188 Go.Proofs.Tryz.f188 mixedOk (by kernel_rfl) (by kernel_rfl) (by kernel_rfl) trivial ⟨rfl, fun d => loopOk_of (fun L e x => h173_2 L e x) (m173_2) (fun R L e x => s173_2 W173_2 d R L e x), trivial⟩ I173 O173 T173 _ (fun x => r173 W173_2 x.1)
/-- vernier/nat.copied -/
abbrev I146 : Sig := [(false, .slice (.int .u64))]
abbrev O146 : Sig := [(false, .slice (.int .u64))]
noncomputable def t146 (p173 : DenS I173 → Bool) (f173 : DenS I173 → DenS O173) (a0 : Den (.slice (.int .u64))) : Option (DenS O146) :=
  bif (p173 (a0, ())) then
  (bif ((decide ((0 : Int) ≤ ((f173 (a0, ())).1.length : Int))) && (decide ((((f173 (a0, ())).1.length : Int) * (8 : Int)) ≤ (140737488355328 : Int)))) then
  (some ((((f173 (a0, ())).1.take (List.replicate (Int.toNat ((f173 (a0, ())).1.length : Int)) (0 : Int)).length) ++ ((List.replicate (Int.toNat ((f173 (a0, ())).1.length : Int)) (0 : Int)).drop (f173 (a0, ())).1.length)), ()))
  else none)
  else none
theorem r146 (p173 : DenS I173 → Bool) (f173 : DenS I173 → DenS O173) (a0 : Den (.slice (.int .u64))) :
    run { P := Go.Proofs.Tryz.prog, sums := [(188, ⟨I173, O173, p173, f173⟩)], loops := [], globs := G1 } 9 187 Go.Proofs.Tryz.f187 I146 O146 (a0, ()) = t146 p173 f173 a0 := by kernel_rfl
noncomputable def T146 (x : DenS I146) : Option (DenS O146) := t146 S173.pre S173.F x.1
noncomputable def C146 : Cfg := { P := Go.Proofs.Tryz.prog, sums := [(188, S173)], loops := [], globs := G1 }
noncomputable def S146 : Sum := sumOf I146 O146 T146 (DenS.dflt O146)
theorem S146_sound : Sound Go.Proofs.Tryz.prog G1 187 S146 :=
  fn_sound C146 9 187 Go.Proofs.Tryz.f187 mixedOk (by kernel_rfl) (by kernel_rfl) (by kernel_rfl) ⟨S173_sound, trivial⟩ trivial I146 O146 T146 _ (fun x => r146 S173.pre S173.F x.1)
/-- vernier/nat.Trim -/
abbrev I102 : Sig := [(false, .slice (.int .u64))]
abbrev O102 : Sig := [(false, .slice (.int .u64))]
noncomputable def t102 (p146 : DenS I146 → Bool) (f146 : DenS I146 → DenS O146) (a0 : Den (.slice (.int .u64))) : Option (DenS O102) :=
  bif (p146 (a0, ())) then
  (some (f146 (a0, ())))
  else none
theorem r102 (p146 : DenS I146 → Bool) (f146 : DenS I146 → DenS O146) (a0 : Den (.slice (.int .u64))) :
    run { P := Go.Proofs.Tryz.prog, sums := [(187, ⟨I146, O146, p146, f146⟩)], loops := [], globs := G1 } 9 154 Go.Proofs.Tryz.f154 I102 O102 (a0, ()) = t102 p146 f146 a0 := by kernel_rfl
noncomputable def T102 (x : DenS I102) : Option (DenS O102) := t102 S146.pre S146.F x.1
noncomputable def C102 : Cfg := { P := Go.Proofs.Tryz.prog, sums := [(187, S146)], loops := [], globs := G1 }
noncomputable def S102 : Sum := sumOf I102 O102 T102 (DenS.dflt O102)
theorem S102_sound : Sound Go.Proofs.Tryz.prog G1 154 S102 :=
  fn_sound C102 9 154 Go.Proofs.Tryz.f154 mixedOk (by kernel_rfl) (by kernel_rfl) (by kernel_rfl) ⟨S146_sound, trivial⟩ trivial I102 O102 T102 _ (fun x => r102 S146.pre S146.F x.1)
/-- math/bits.TrailingZeros64 -/
abbrev I92 : Sig := [(false, .int .u64)]
abbrev O92 : Sig := [(false, .int .i64)]
noncomputable def t92 (a0 : Den (.int .u64)) : Option (DenS O92) :=
  bif (a0 == (0 : Int)) then
  (some ((64 : Int), ()))
  else bif (Vx.sealB ((decide ((0 : Int) ≤ (Vx.shrI Go.IntKind.u64 (Go.IntKind.wrap Go.IntKind.u64 ((Vx.andI Go.IntKind.u64 a0 (Go.IntKind.wrap Go.IntKind.u64 ((0 : Int) - a0))) * (285870213051353865 : Int))) (58 : Int)))) && (decide ((Vx.shrI Go.IntKind.u64 (Go.IntKind.wrap Go.IntKind.u64 ((Vx.andI Go.IntKind.u64 a0 (Go.IntKind.wrap Go.IntKind.u64 ((0 : Int) - a0))) * (285870213051353865 : Int))) (58 : Int)) < ((64 : Nat) : Int))))) then
  (some ((Go.IntKind.wrap Go.IntKind.i64 (Vx.k_deb.getD (Int.toNat (Vx.shrI Go.IntKind.u64 (Go.IntKind.wrap Go.IntKind.u64 ((Vx.andI Go.IntKind.u64 a0 (Go.IntKind.wrap Go.IntKind.u64 ((0 : Int) - a0))) * (285870213051353865 : Int))) (58 : Int))) (0 : Int))), ()))
  else none
theorem r92 (a0 : Den (.int .u64)) :
    run { P := Go.Proofs.Tryz.prog, sums := [], loops := [], globs := G1 } 9 135 Go.Proofs.Tryz.f135 I92 O92 (a0, ()) = t92 a0 := by kernel_rfl
noncomputable def T92 (x : DenS I92) : Option (DenS O92) := t92 x.1
noncomputable def C92 : Cfg := { P := Go.Proofs.Tryz.prog, sums := [], loops := [], globs := G1 }
noncomputable def S92 : Sum := sumOf I92 O92 T92 (DenS.dflt O92)
theorem S92_sound : Sound Go.Proofs.Tryz.prog G1 135 S92 :=
  fn_sound C92 9 135 Go.Proofs.Tryz.f135 mixedOk (by kernel_rfl) (by kernel_rfl) (by kernel_rfl) trivial trivial I92 O92 T92 _ (fun x => r92 x.1)
/-- vernier/nat.right -/
abbrev I171 : Sig := [(false, .slice (.int .u64)), (false, .int .i64)]
abbrev O171 : Sig := [(false, .slice (.int .u64))]
abbrev P171_7 : Pat := ⟨66, [(25, .one (.v .i64)), (0, .one (.sl (.int .u64))), (5, .one (.v .i64)), (6, .one (.v .i64)), (26, .one (.v .i64)), (7, .one (.own 0))], [.arr (.int .u64)]⟩
abbrev A171_7 : List (Nat × Shape) := []
abbrev X171_7 : List (Nat × Pat) := [(0, ⟨66, [(7, .one (.own 0))], [.arr (.int .u64)]⟩)]
abbrev Q171_7 : Option Pat := none
noncomputable def h171_7 (p173 : DenS I173 → Bool) (f173 : DenS I173 → DenS O173) {R : Type} (L : Pat.D P171_7 → Option R) (e : OutT X171_7 Q171_7 → Option R) (x : Pat.D P171_7) : Option R :=
  bif (decide (x.1.2.2.2.2.1 < x.1.1)) then
  (bif ((decide ((0 : Int) ≤ (Go.IntKind.wrap Go.IntKind.i64 (x.1.2.2.1 + x.1.2.2.2.2.1)))) && (decide ((Go.IntKind.wrap Go.IntKind.i64 (x.1.2.2.1 + x.1.2.2.2.2.1)) < (x.1.2.1.length : Int)))) then
  (bif (decide ((0 : Int) ≤ x.1.2.2.2.1)) then
  (bif ((decide ((0 : Int) ≤ x.1.2.2.2.2.1)) && (decide (x.1.2.2.2.2.1 < (x.2.1.length : Int)))) then
  (bif (decide ((Go.IntKind.wrap Go.IntKind.i64 ((Go.IntKind.wrap Go.IntKind.i64 (x.1.2.2.1 + x.1.2.2.2.2.1)) + (1 : Int))) < (x.1.2.1.length : Int))) then
  (bif ((decide ((0 : Int) ≤ x.1.2.2.2.2.1)) && (decide (x.1.2.2.2.2.1 < ((x.2.1.set (Int.toNat x.1.2.2.2.2.1) (Vx.shrI Go.IntKind.u64 (x.1.2.1.getD (Int.toNat (Go.IntKind.wrap Go.IntKind.i64 (x.1.2.2.1 + x.1.2.2.2.2.1))) (0 : Int)) x.1.2.2.2.1)).length : Int)))) then
  (bif ((decide ((0 : Int) ≤ (Go.IntKind.wrap Go.IntKind.i64 ((Go.IntKind.wrap Go.IntKind.i64 (x.1.2.2.1 + x.1.2.2.2.2.1)) + (1 : Int))))) && (decide ((Go.IntKind.wrap Go.IntKind.i64 ((Go.IntKind.wrap Go.IntKind.i64 (x.1.2.2.1 + x.1.2.2.2.2.1)) + (1 : Int))) < (x.1.2.1.length : Int)))) then
  (bif (decide ((0 : Int) ≤ (Go.IntKind.wrap Go.IntKind.i64 ((64 : Int) - x.1.2.2.2.1)))) then
  (bif ((decide ((0 : Int) ≤ x.1.2.2.2.2.1)) && (decide (x.1.2.2.2.2.1 < ((x.2.1.set (Int.toNat x.1.2.2.2.2.1) (Vx.shrI Go.IntKind.u64 (x.1.2.1.getD (Int.toNat (Go.IntKind.wrap Go.IntKind.i64 (x.1.2.2.1 + x.1.2.2.2.2.1))) (0 : Int)) x.1.2.2.2.1)).length : Int)))) then
  ((L ((x.1.1, (x.1.2.1, (x.1.2.2.1, (x.1.2.2.2.1, ((Go.IntKind.wrap Go.IntKind.i64 (x.1.2.2.2.2.1 + (1 : Int))), ((), ())))))), (((x.2.1.set (Int.toNat x.1.2.2.2.2.1) (Vx.shrI Go.IntKind.u64 (x.1.2.1.getD (Int.toNat (Go.IntKind.wrap Go.IntKind.i64 (x.1.2.2.1 + x.1.2.2.2.2.1))) (0 : Int)) x.1.2.2.2.1)).set (Int.toNat x.1.2.2.2.2.1) (Vx.orI Go.IntKind.u64 ((x.2.1.set (Int.toNat x.1.2.2.2.2.1) (Vx.shrI Go.IntKind.u64 (x.1.2.1.getD (Int.toNat (Go.IntKind.wrap Go.IntKind.i64 (x.1.2.2.1 + x.1.2.2.2.2.1))) (0 : Int)) x.1.2.2.2.1)).getD (Int.toNat x.1.2.2.2.2.1) (0 : Int)) (Vx.shlI Go.IntKind.u64 (x.1.2.1.getD (Int.toNat (Go.IntKind.wrap Go.IntKind.i64 ((Go.IntKind.wrap Go.IntKind.i64 (x.1.2.2.1 + x.1.2.2.2.2.1)) + (1 : Int)))) (0 : Int)) (Go.IntKind.wrap Go.IntKind.i64 ((64 : Int) - x.1.2.2.2.1))))), ()))))
  else none)
  else none)
  else none)
  else none)
  else (L ((x.1.1, (x.1.2.1, (x.1.2.2.1, (x.1.2.2.2.1, ((Go.IntKind.wrap Go.IntKind.i64 (x.1.2.2.2.2.1 + (1 : Int))), ((), ())))))), ((x.2.1.set (Int.toNat x.1.2.2.2.2.1) (Vx.shrI Go.IntKind.u64 (x.1.2.1.getD (Int.toNat (Go.IntKind.wrap Go.IntKind.i64 (x.1.2.2.1 + x.1.2.2.2.2.1))) (0 : Int)) x.1.2.2.2.1)), ()))))
  else none)
  else none)
  else none)
  else (e (.inl (((), ()), x.2)))
theorem s171_7 (p173 : DenS I173 → Bool) (f173 : DenS I173 → DenS O173) (w171_7 : Pat.D P171_7 → Option (OutT X171_7 Q171_7)) (d : Nat) (R : Type) (L : Pat.D P171_7 → Option R) (e : OutT X171_7 Q171_7 → Option R) (x : Pat.D P171_7) :
    lStep { P := Go.Proofs.Tryz.prog, sums := [(188, ⟨I173, O173, p173, f173⟩)], loops := [(210, 7, LoopSpec.of P171_7 A171_7 X171_7 Q171_7 w171_7)], globs := G1 } (d + 2) 210 (bodyOf Go.Proofs.Tryz.f210 7) P171_7 A171_7 X171_7 Q171_7 (R := R) L e x = h171_7 p173 f173 L e x := by kernel_rfl
theorem m171_7 (p173 : DenS I173 → Bool) (f173 : DenS I173 → DenS O173) : Par fun L e x => h171_7 p173 f173 L e x := by
  intro A B rel L L' e e' h0 hL he x
  unfold h171_7
  repeat' (first | exact h0 | exact hL _ | exact he _ | apply rel_cond | (apply rel_obind h0; intro _) | (apply rel_obind2 <;> intro _))
noncomputable def t171 (p173 : DenS I173 → Bool) (f173 : DenS I173 → DenS O173) (w171_7 : Pat.D P171_7 → Option (OutT X171_7 Q171_7)) (a0 : Den (.slice (.int .u64))) (a1 : Den (.int .i64)) : Option (DenS O171) :=
  bif (p173 (a0, ())) then
  (bif (decide ((Vx.quoI Go.IntKind.i64 a1 (64 : Int)) ≥ ((f173 (a0, ())).1.length : Int))) then
  (some ([], ()))
  else bif ((decide ((0 : Int) ≤ (Go.IntKind.wrap Go.IntKind.i64 (((f173 (a0, ())).1.length : Int) - (Vx.quoI Go.IntKind.i64 a1 (64 : Int)))))) && (decide (((Go.IntKind.wrap Go.IntKind.i64 (((f173 (a0, ())).1.length : Int) - (Vx.quoI Go.IntKind.i64 a1 (64 : Int)))) * (8 : Int)) ≤ (140737488355328 : Int)))) then
  (Vx.obind (w171_7 ((((List.replicate (Int.toNat (Go.IntKind.wrap Go.IntKind.i64 (((f173 (a0, ())).1.length : Int) - (Vx.quoI Go.IntKind.i64 a1 (64 : Int))))) (0 : Int)).length : Int), ((f173 (a0, ())).1, ((Vx.quoI Go.IntKind.i64 a1 (64 : Int)), ((Int.tmod a1 (64 : Int)), ((0 : Int), ((), ())))))), ((List.replicate (Int.toNat (Go.IntKind.wrap Go.IntKind.i64 (((f173 (a0, ())).1.length : Int) - (Vx.quoI Go.IntKind.i64 a1 (64 : Int))))) (0 : Int)), ()))) fun y3 =>
  Vx.obind2 y3 (fun y4 =>
  bif (p173 y4.2) then
  (some (f173 y4.2))
  else none) (fun z4 =>
  none))
  else none)
  else none
theorem r171 (p173 : DenS I173 → Bool) (f173 : DenS I173 → DenS O173) (w171_7 : Pat.D P171_7 → Option (OutT X171_7 Q171_7)) (a0 : Den (.slice (.int .u64))) (a1 : Den (.int .i64)) :
    run { P := Go.Proofs.Tryz.prog, sums := [(188, ⟨I173, O173, p173, f173⟩)], loops := [(210, 7, LoopSpec.of P171_7 A171_7 X171_7 Q171_7 w171_7)], globs := G1 } 9 210 Go.Proofs.Tryz.f210 I171 O171 (a0, a1, ()) = t171 p173 f173 w171_7 a0 a1 := by kernel_rfl
noncomputable def W171_7 : P171_7.D → Option (OutT X171_7 Q171_7) := lfix fun L => h171_7 S173.pre S173.F L some
noncomputable def T171 (x : DenS I171) : Option (DenS O171) := t171 S173.pre S173.F W171_7 x.1 x.2.1
noncomputable def C171 : Cfg := { P := Go.Proofs.Tryz.prog, sums := [(188, S173)], loops := [(210, 7, LoopSpec.of P171_7 A171_7 X171_7 Q171_7 W171_7)], globs := G1 }
noncomputable def S171 : Sum := sumOf I171 O171 T171 (DenS.dflt O171)
theorem S171_sound : Sound Go.Proofs.Tryz.prog G1 210 S171 :=
  fn_sound C171 9 210 Go.Proofs.Tryz.f210 mixedOk (by kernel_rfl) (by kernel_rfl) (by kernel_rfl) ⟨S173_sound, trivial⟩ ⟨rfl, fun d => loopOk_of (fun L e x => h171_7 S173.pre S173.F L e x) (m171_7 S173.pre S173.F) (fun R L e x => s171_7 S173.pre S173.F W171_7 d R L e x), trivial⟩ I171 O171 T171 _ (fun x => r171 S173.pre S173.F W171_7 x.1 x.2.1)
/-- vernier/nat.Shr -/
abbrev I141 : Sig := [(false, .slice (.int .u64)), (false, .int .i64)]
abbrev O141 : Sig := [(false, .slice (.int .u64)), (false, .int .i64)]
noncomputable def t141 (p171 : DenS I171 → Bool) (f171 : DenS I171 → DenS O171) (a0 : Den (.slice (.int .u64))) (a1 : Den (.int .i64)) : Option (DenS O141) :=
  bif (decide (a1 < (0 : Int))) then
  (some ([], ((7 : Int), ())))
  else bif (p171 (a0, (a1, ()))) then
  (some ((f171 (a0, (a1, ()))).1, ((0 : Int), ())))
  else none
theorem r141 (p171 : DenS I171 → Bool) (f171 : DenS I171 → DenS O171) (a0 : Den (.slice (.int .u64))) (a1 : Den (.int .i64)) :
    run { P := Go.Proofs.Tryz.prog, sums := [(210, ⟨I171, O171, p171, f171⟩)], loops := [], globs := G1 } 9 197 Go.Proofs.Tryz.f197 I141 O141 (a0, a1, ()) = t141 p171 f171 a0 a1 := by kernel_rfl
noncomputable def T141 (x : DenS I141) : Option (DenS O141) := t141 S171.pre S171.F x.1 x.2.1
noncomputable def C141 : Cfg := { P := Go.Proofs.Tryz.prog, sums := [(210, S171)], loops := [], globs := G1 }
noncomputable def S141 : Sum := sumOf I141 O141 T141 (DenS.dflt O141)
theorem S141_sound : Sound Go.Proofs.Tryz.prog G1 197 S141 :=
  fn_sound C141 9 197 Go.Proofs.Tryz.f197 mixedOk (by kernel_rfl) (by kernel_rfl) (by kernel_rfl) ⟨S171_sound, trivial⟩ trivial I141 O141 T141 _ (fun x => r141 S171.pre S171.F x.1 x.2.1)
/-- vernier/dyad.odd -/
abbrev I100 : Sig := [(true, .pair (.bool) (.pair (.slice (.int .u64)) (.pair (.int .i64) (.unit))))]
abbrev O100 : Sig := [(true, .pair (.bool) (.pair (.slice (.int .u64)) (.pair (.int .i64) (.unit))))]
abbrev P100_5 : Pat := ⟨42, [(4, .one (.v .i64)), (3, .one (.sl (.int .u64))), (1, .one (.ptr 0 0)), (2, .one (.ptr 1 0))], [.raw [.bool, .sl (.int .u64), .v .i64], .raw [.bool, .sl (.int .u64), .v .i64]]⟩
abbrev A100_5 : List (Nat × Shape) := []
abbrev X100_5 : List (Nat × Pat) := [(0, ⟨42, [(4, .one (.v .i64)), (3, .one (.sl (.int .u64))), (1, .one (.ptr 0 0)), (2, .one (.ptr 1 0))], [.raw [.bool, .sl (.int .u64), .v .i64], .raw [.bool, .sl (.int .u64), .v .i64]]⟩)]
abbrev Q100_5 : Option Pat := none
noncomputable def h100_5 (p102 : DenS I102 → Bool) (f102 : DenS I102 → DenS O102) (p92 : DenS I92 → Bool) (f92 : DenS I92 → DenS O92) (p141 : DenS I141 → Bool) (f141 : DenS I141 → DenS O141) {R : Type} (L : Pat.D P100_5 → Option R) (e : OutT X100_5 Q100_5 → Option R) (x : Pat.D P100_5) : Option R :=
  bif ((decide ((0 : Int) ≤ (Vx.quoI Go.IntKind.i64 x.1.1 (64 : Int)))) && (decide ((Vx.quoI Go.IntKind.i64 x.1.1 (64 : Int)) < (x.1.2.1.length : Int)))) then
  (bif ((x.1.2.1.getD (Int.toNat (Vx.quoI Go.IntKind.i64 x.1.1 (64 : Int))) (0 : Int)) == (0 : Int)) then
  ((L (((Go.IntKind.wrap Go.IntKind.i64 (x.1.1 + (64 : Int))), (x.1.2.1, ((), ((), ())))), x.2)))
  else (e (.inl ((x.1.1, (x.1.2.1, ((), ((), ())))), x.2))))
  else none
theorem s100_5 (p102 : DenS I102 → Bool) (f102 : DenS I102 → DenS O102) (p92 : DenS I92 → Bool) (f92 : DenS I92 → DenS O92) (p141 : DenS I141 → Bool) (f141 : DenS I141 → DenS O141) (w100_5 : Pat.D P100_5 → Option (OutT X100_5 Q100_5)) (d : Nat) (R : Type) (L : Pat.D P100_5 → Option R) (e : OutT X100_5 Q100_5 → Option R) (x : Pat.D P100_5) :
    lStep { P := Go.Proofs.Tryz.prog, sums := [(154, ⟨I102, O102, p102, f102⟩), (135, ⟨I92, O92, p92, f92⟩), (197, ⟨I141, O141, p141, f141⟩)], loops := [(194, 5, LoopSpec.of P100_5 A100_5 X100_5 Q100_5 w100_5)], globs := G1 } (d + 2) 194 (bodyOf Go.Proofs.Tryz.f194 5) P100_5 A100_5 X100_5 Q100_5 (R := R) L e x = h100_5 p102 f102 p92 f92 p141 f141 L e x := by kernel_rfl
theorem m100_5 (p102 : DenS I102 → Bool) (f102 : DenS I102 → DenS O102) (p92 : DenS I92 → Bool) (f92 : DenS I92 → DenS O92) (p141 : DenS I141 → Bool) (f141 : DenS I141 → DenS O141) : Par fun L e x => h100_5 p102 f102 p92 f92 p141 f141 L e x := by
  intro A B rel L L' e e' h0 hL he x
  unfold h100_5
  repeat' (first | exact h0 | exact hL _ | exact he _ | apply rel_cond | (apply rel_obind h0; intro _) | (apply rel_obind2 <;> intro _))
noncomputable def t100 (p102 : DenS I102 → Bool) (f102 : DenS I102 → DenS O102) (p92 : DenS I92 → Bool) (f92 : DenS I92 → DenS O92) (p141 : DenS I141 → Bool) (f141 : DenS I141 → DenS O141) (w100_5 : Pat.D P100_5 → Option (OutT X100_5 Q100_5)) (a0 : Den (.pair (.bool) (.pair (.slice (.int .u64)) (.pair (.int .i64) (.unit))))) : Option (DenS O100) :=
  bif (p102 (a0.2.1, ())) then
  (bif (((f102 (a0.2.1, ())).1.length : Int) == (0 : Int)) then
  (some ((false, ([], ((0 : Int), ()))), ()))
  else Vx.obind (w100_5 (((0 : Int), ((f102 (a0.2.1, ())).1, ((), ((), ())))), ((a0.1, a0.2), ((false, ([], ((0 : Int), ()))), ())))) fun y2 =>
  Vx.obind2 y2 (fun y3 =>
  bif ((decide ((0 : Int) ≤ (Vx.quoI Go.IntKind.i64 y3.1.1 (64 : Int)))) && (decide ((Vx.quoI Go.IntKind.i64 y3.1.1 (64 : Int)) < (y3.1.2.1.length : Int)))) then
  (bif (p92 ((y3.1.2.1.getD (Int.toNat (Vx.quoI Go.IntKind.i64 y3.1.1 (64 : Int))) (0 : Int)), ())) then
  (bif (p141 (y3.1.2.1, ((Go.IntKind.wrap Go.IntKind.i64 (y3.1.1 + (f92 ((y3.1.2.1.getD (Int.toNat (Vx.quoI Go.IntKind.i64 y3.1.1 (64 : Int))) (0 : Int)), ())).1)), ()))) then
  (some ((y3.2.1.1, ((f141 (y3.1.2.1, ((Go.IntKind.wrap Go.IntKind.i64 (y3.1.1 + (f92 ((y3.1.2.1.getD (Int.toNat (Vx.quoI Go.IntKind.i64 y3.1.1 (64 : Int))) (0 : Int)), ())).1)), ()))).1, ((Go.IntKind.wrap Go.IntKind.i64 (y3.2.1.2.2.1 + (Go.IntKind.wrap Go.IntKind.i64 (y3.1.1 + (f92 ((y3.1.2.1.getD (Int.toNat (Vx.quoI Go.IntKind.i64 y3.1.1 (64 : Int))) (0 : Int)), ())).1)))), ()))), ()))
  else none)
  else none)
  else none) (fun z3 =>
  none))
  else none
theorem r100 (p102 : DenS I102 → Bool) (f102 : DenS I102 → DenS O102) (p92 : DenS I92 → Bool) (f92 : DenS I92 → DenS O92) (p141 : DenS I141 → Bool) (f141 : DenS I141 → DenS O141) (w100_5 : Pat.D P100_5 → Option (OutT X100_5 Q100_5)) (a0 : Den (.pair (.bool) (.pair (.slice (.int .u64)) (.pair (.int .i64) (.unit))))) :
    run { P := Go.Proofs.Tryz.prog, sums := [(154, ⟨I102, O102, p102, f102⟩), (135, ⟨I92, O92, p92, f92⟩), (197, ⟨I141, O141, p141, f141⟩)], loops := [(194, 5, LoopSpec.of P100_5 A100_5 X100_5 Q100_5 w100_5)], globs := G1 } 9 194 Go.Proofs.Tryz.f194 I100 O100 (a0, ()) = t100 p102 f102 p92 f92 p141 f141 w100_5 a0 := by kernel_rfl
noncomputable def W100_5 : P100_5.D → Option (OutT X100_5 Q100_5) := lfix fun L => h100_5 S102.pre S102.F S92.pre S92.F S141.pre S141.F L some
noncomputable def T100 (x : DenS I100) : Option (DenS O100) := t100 S102.pre S102.F S92.pre S92.F S141.pre S141.F W100_5 x.1
noncomputable def C100 : Cfg := { P := Go.Proofs.Tryz.prog, sums := [(154, S102), (135, S92), (197, S141)], loops := [(194, 5, LoopSpec.of P100_5 A100_5 X100_5 Q100_5 W100_5)], globs := G1 }
noncomputable def S100 : Sum := sumOf I100 O100 T100 (DenS.dflt O100)
theorem S100_sound : Sound Go.Proofs.Tryz.prog G1 194 S100 :=
  fn_sound C100 9 194 Go.Proofs.Tryz.f194 mixedOk (by kernel_rfl) (by kernel_rfl) (by kernel_rfl) ⟨S102_sound, ⟨S92_sound, ⟨S141_sound, trivial⟩⟩⟩ ⟨rfl, fun d => loopOk_of (fun L e x => h100_5 S102.pre S102.F S92.pre S92.F S141.pre S141.F L e x) (m100_5 S102.pre S102.F S92.pre S92.F S141.pre S141.F) (fun R L e x => s100_5 S102.pre S102.F S92.pre S92.F S141.pre S141.F W100_5 d R L e x), trivial⟩ I100 O100 T100 _ (fun x => r100 S102.pre S102.F S92.pre S92.F S141.pre S141.F W100_5 x.1)
/-- vernier/dyad.answer -/
abbrev I104 : Sig := [(true, .pair (.bool) (.pair (.slice (.int .u64)) (.pair (.int .i64) (.unit))))]
abbrev O104 : Sig := [(true, .pair (.bool) (.pair (.slice (.int .u64)) (.pair (.int .i64) (.unit)))), (false, .int .i64)]
noncomputable def t104 (p100 : DenS I100 → Bool) (f100 : DenS I100 → DenS O100) (a0 : Den (.pair (.bool) (.pair (.slice (.int .u64)) (.pair (.int .i64) (.unit))))) : Option (DenS O104) :=
  bif (p100 ((a0.1, a0.2), ())) then
  (bif (decide (((f100 ((a0.1, a0.2), ())).1.2.1.length : Int) > (1024 : Int))) then
  (some ((false, ([], ((0 : Int), ()))), ((5 : Int), ())))
  else bif ((decide ((f100 ((a0.1, a0.2), ())).1.2.2.1 < (-(40000 : Int)))) || (decide ((f100 ((a0.1, a0.2), ())).1.2.2.1 > (40000 : Int)))) then
  (some ((false, ([], ((0 : Int), ()))), ((30 : Int), ())))
  else some ((f100 ((a0.1, a0.2), ())).1, ((0 : Int), ())))
  else none
theorem r104 (p100 : DenS I100 → Bool) (f100 : DenS I100 → DenS O100) (a0 : Den (.pair (.bool) (.pair (.slice (.int .u64)) (.pair (.int .i64) (.unit))))) :
    run { P := Go.Proofs.Tryz.prog, sums := [(194, ⟨I100, O100, p100, f100⟩)], loops := [], globs := G1 } 9 163 Go.Proofs.Tryz.f163 I104 O104 (a0, ()) = t104 p100 f100 a0 := by kernel_rfl
noncomputable def T104 (x : DenS I104) : Option (DenS O104) := t104 S100.pre S100.F x.1
noncomputable def C104 : Cfg := { P := Go.Proofs.Tryz.prog, sums := [(194, S100)], loops := [], globs := G1 }
noncomputable def S104 : Sum := sumOf I104 O104 T104 (DenS.dflt O104)
theorem S104_sound : Sound Go.Proofs.Tryz.prog G1 163 S104 :=
  fn_sound C104 9 163 Go.Proofs.Tryz.f163 mixedOk (by kernel_rfl) (by kernel_rfl) (by kernel_rfl) ⟨S100_sound, trivial⟩ trivial I104 O104 T104 _ (fun x => r104 S100.pre S100.F x.1)
/-- vernier/dyad.Canon -/
abbrev I106 : Sig := [(true, .pair (.bool) (.pair (.slice (.int .u64)) (.pair (.int .i64) (.unit))))]
abbrev O106 : Sig := [(true, .pair (.bool) (.pair (.slice (.int .u64)) (.pair (.int .i64) (.unit)))), (false, .int .i64)]
noncomputable def t106 (p103 : DenS I103 → Bool) (f103 : DenS I103 → DenS O103) (p104 : DenS I104 → Bool) (f104 : DenS I104 → DenS O104) (a0 : Den (.pair (.bool) (.pair (.slice (.int .u64)) (.pair (.int .i64) (.unit))))) : Option (DenS O106) :=
  bif (p103 ((a0.1, a0.2), ())) then
  (bif ((f103 ((a0.1, a0.2), ())).1 != (0 : Int)) then
  (some ((false, ([], ((0 : Int), ()))), (f103 ((a0.1, a0.2), ()))))
  else bif (p104 ((a0.1, a0.2), ())) then
  (some (f104 ((a0.1, a0.2), ())))
  else none)
  else none
theorem r106 (p103 : DenS I103 → Bool) (f103 : DenS I103 → DenS O103) (p104 : DenS I104 → Bool) (f104 : DenS I104 → DenS O104) (a0 : Den (.pair (.bool) (.pair (.slice (.int .u64)) (.pair (.int .i64) (.unit))))) :
    run { P := Go.Proofs.Tryz.prog, sums := [(162, ⟨I103, O103, p103, f103⟩), (163, ⟨I104, O104, p104, f104⟩)], loops := [], globs := G1 } 9 124 Go.Proofs.Tryz.f124 I106 O106 (a0, ()) = t106 p103 f103 p104 f104 a0 := by kernel_rfl
noncomputable def T106 (x : DenS I106) : Option (DenS O106) := t106 S103.pre S103.F S104.pre S104.F x.1
noncomputable def C106 : Cfg := { P := Go.Proofs.Tryz.prog, sums := [(162, S103), (163, S104)], loops := [], globs := G1 }
noncomputable def S106 : Sum := sumOf I106 O106 T106 (DenS.dflt O106)
theorem S106_sound : Sound Go.Proofs.Tryz.prog G1 124 S106 :=
  fn_sound C106 9 124 Go.Proofs.Tryz.f124 mixedOk (by kernel_rfl) (by kernel_rfl) (by kernel_rfl) ⟨S103_sound, ⟨S104_sound, trivial⟩⟩ trivial I106 O106 T106 _ (fun x => r106 S103.pre S103.F S104.pre S104.F x.1)
/-- math/bits.Len64 -/
abbrev I178 : Sig := [(false, .int .u64)]
abbrev O178 : Sig := [(false, .int .i64)]
noncomputable def t178 (a0 : Den (.int .u64)) : Option (DenS O178) :=
  bif (decide (a0 ≥ (4294967296 : Int))) then
  (bif (decide ((Vx.shrI Go.IntKind.u64 a0 (32 : Int)) ≥ (65536 : Int))) then
  (bif (decide ((Vx.shrI Go.IntKind.u64 (Vx.shrI Go.IntKind.u64 a0 (32 : Int)) (16 : Int)) ≥ (256 : Int))) then
  (bif ((decide ((0 : Int) ≤ (Go.IntKind.wrap Go.IntKind.u8 (Vx.shrI Go.IntKind.u64 (Vx.shrI Go.IntKind.u64 (Vx.shrI Go.IntKind.u64 a0 (32 : Int)) (16 : Int)) (8 : Int))))) && (decide ((Go.IntKind.wrap Go.IntKind.u8 (Vx.shrI Go.IntKind.u64 (Vx.shrI Go.IntKind.u64 (Vx.shrI Go.IntKind.u64 a0 (32 : Int)) (16 : Int)) (8 : Int))) < (256 : Int)))) then
  (some ((Go.IntKind.wrap Go.IntKind.i64 ((Go.IntKind.wrap Go.IntKind.i64 ((Go.IntKind.wrap Go.IntKind.i64 ((32 : Int) + (16 : Int))) + (8 : Int))) + (Go.IntKind.wrap Go.IntKind.i64 ((UInt8.toNat (Vx.k_len8.getD (Int.toNat (Go.IntKind.wrap Go.IntKind.u8 (Vx.shrI Go.IntKind.u64 (Vx.shrI Go.IntKind.u64 (Vx.shrI Go.IntKind.u64 a0 (32 : Int)) (16 : Int)) (8 : Int)))) (0 : UInt8))) : Int)))), ()))
  else none)
  else bif ((decide ((0 : Int) ≤ (Go.IntKind.wrap Go.IntKind.u8 (Vx.shrI Go.IntKind.u64 (Vx.shrI Go.IntKind.u64 a0 (32 : Int)) (16 : Int))))) && (decide ((Go.IntKind.wrap Go.IntKind.u8 (Vx.shrI Go.IntKind.u64 (Vx.shrI Go.IntKind.u64 a0 (32 : Int)) (16 : Int))) < (256 : Int)))) then
  (some ((Go.IntKind.wrap Go.IntKind.i64 ((Go.IntKind.wrap Go.IntKind.i64 ((32 : Int) + (16 : Int))) + (Go.IntKind.wrap Go.IntKind.i64 ((UInt8.toNat (Vx.k_len8.getD (Int.toNat (Go.IntKind.wrap Go.IntKind.u8 (Vx.shrI Go.IntKind.u64 (Vx.shrI Go.IntKind.u64 a0 (32 : Int)) (16 : Int)))) (0 : UInt8))) : Int)))), ()))
  else none)
  else bif (decide ((Vx.shrI Go.IntKind.u64 a0 (32 : Int)) ≥ (256 : Int))) then
  (bif ((decide ((0 : Int) ≤ (Go.IntKind.wrap Go.IntKind.u8 (Vx.shrI Go.IntKind.u64 (Vx.shrI Go.IntKind.u64 a0 (32 : Int)) (8 : Int))))) && (decide ((Go.IntKind.wrap Go.IntKind.u8 (Vx.shrI Go.IntKind.u64 (Vx.shrI Go.IntKind.u64 a0 (32 : Int)) (8 : Int))) < (256 : Int)))) then
  (some ((Go.IntKind.wrap Go.IntKind.i64 ((Go.IntKind.wrap Go.IntKind.i64 ((32 : Int) + (8 : Int))) + (Go.IntKind.wrap Go.IntKind.i64 ((UInt8.toNat (Vx.k_len8.getD (Int.toNat (Go.IntKind.wrap Go.IntKind.u8 (Vx.shrI Go.IntKind.u64 (Vx.shrI Go.IntKind.u64 a0 (32 : Int)) (8 : Int)))) (0 : UInt8))) : Int)))), ()))
  else none)
  else bif ((decide ((0 : Int) ≤ (Go.IntKind.wrap Go.IntKind.u8 (Vx.shrI Go.IntKind.u64 a0 (32 : Int))))) && (decide ((Go.IntKind.wrap Go.IntKind.u8 (Vx.shrI Go.IntKind.u64 a0 (32 : Int))) < (256 : Int)))) then
  (some ((Go.IntKind.wrap Go.IntKind.i64 ((32 : Int) + (Go.IntKind.wrap Go.IntKind.i64 ((UInt8.toNat (Vx.k_len8.getD (Int.toNat (Go.IntKind.wrap Go.IntKind.u8 (Vx.shrI Go.IntKind.u64 a0 (32 : Int)))) (0 : UInt8))) : Int)))), ()))
  else none)
  else bif (decide (a0 ≥ (65536 : Int))) then
  (bif (decide ((Vx.shrI Go.IntKind.u64 a0 (16 : Int)) ≥ (256 : Int))) then
  (bif ((decide ((0 : Int) ≤ (Go.IntKind.wrap Go.IntKind.u8 (Vx.shrI Go.IntKind.u64 (Vx.shrI Go.IntKind.u64 a0 (16 : Int)) (8 : Int))))) && (decide ((Go.IntKind.wrap Go.IntKind.u8 (Vx.shrI Go.IntKind.u64 (Vx.shrI Go.IntKind.u64 a0 (16 : Int)) (8 : Int))) < (256 : Int)))) then
  (some ((Go.IntKind.wrap Go.IntKind.i64 ((Go.IntKind.wrap Go.IntKind.i64 ((Go.IntKind.wrap Go.IntKind.i64 ((0 : Int) + (16 : Int))) + (8 : Int))) + (Go.IntKind.wrap Go.IntKind.i64 ((UInt8.toNat (Vx.k_len8.getD (Int.toNat (Go.IntKind.wrap Go.IntKind.u8 (Vx.shrI Go.IntKind.u64 (Vx.shrI Go.IntKind.u64 a0 (16 : Int)) (8 : Int)))) (0 : UInt8))) : Int)))), ()))
  else none)
  else bif ((decide ((0 : Int) ≤ (Go.IntKind.wrap Go.IntKind.u8 (Vx.shrI Go.IntKind.u64 a0 (16 : Int))))) && (decide ((Go.IntKind.wrap Go.IntKind.u8 (Vx.shrI Go.IntKind.u64 a0 (16 : Int))) < (256 : Int)))) then
  (some ((Go.IntKind.wrap Go.IntKind.i64 ((Go.IntKind.wrap Go.IntKind.i64 ((0 : Int) + (16 : Int))) + (Go.IntKind.wrap Go.IntKind.i64 ((UInt8.toNat (Vx.k_len8.getD (Int.toNat (Go.IntKind.wrap Go.IntKind.u8 (Vx.shrI Go.IntKind.u64 a0 (16 : Int)))) (0 : UInt8))) : Int)))), ()))
  else none)
  else bif (decide (a0 ≥ (256 : Int))) then
  (bif ((decide ((0 : Int) ≤ (Go.IntKind.wrap Go.IntKind.u8 (Vx.shrI Go.IntKind.u64 a0 (8 : Int))))) && (decide ((Go.IntKind.wrap Go.IntKind.u8 (Vx.shrI Go.IntKind.u64 a0 (8 : Int))) < (256 : Int)))) then
  (some ((Go.IntKind.wrap Go.IntKind.i64 ((Go.IntKind.wrap Go.IntKind.i64 ((0 : Int) + (8 : Int))) + (Go.IntKind.wrap Go.IntKind.i64 ((UInt8.toNat (Vx.k_len8.getD (Int.toNat (Go.IntKind.wrap Go.IntKind.u8 (Vx.shrI Go.IntKind.u64 a0 (8 : Int)))) (0 : UInt8))) : Int)))), ()))
  else none)
  else bif ((decide ((0 : Int) ≤ (Go.IntKind.wrap Go.IntKind.u8 a0))) && (decide ((Go.IntKind.wrap Go.IntKind.u8 a0) < (256 : Int)))) then
  (some ((Go.IntKind.wrap Go.IntKind.i64 ((0 : Int) + (Go.IntKind.wrap Go.IntKind.i64 ((UInt8.toNat (Vx.k_len8.getD (Int.toNat (Go.IntKind.wrap Go.IntKind.u8 a0)) (0 : UInt8))) : Int)))), ()))
  else none
theorem r178 (a0 : Den (.int .u64)) :
    run { P := Go.Proofs.Tryz.prog, sums := [], loops := [], globs := G1 } 9 109 Go.Proofs.Tryz.f109 I178 O178 (a0, ()) = t178 a0 := by kernel_rfl
noncomputable def T178 (x : DenS I178) : Option (DenS O178) := t178 x.1
noncomputable def C178 : Cfg := { P := Go.Proofs.Tryz.prog, sums := [], loops := [], globs := G1 }
noncomputable def S178 : Sum := sumOf I178 O178 T178 (DenS.dflt O178)
theorem S178_sound : Sound Go.Proofs.Tryz.prog G1 109 S178 :=
  fn_sound C178 9 109 Go.Proofs.Tryz.f109 mixedOk (by kernel_rfl) (by kernel_rfl) (by kernel_rfl) trivial trivial I178 O178 T178 _ (fun x => r178 x.1)
/-- vernier/nat.Len -/
abbrev I151 : Sig := [(false, .slice (.int .u64))]
abbrev O151 : Sig := [(false, .int .i64)]
noncomputable def t151 (p173 : DenS I173 → Bool) (f173 : DenS I173 → DenS O173) (p178 : DenS I178 → Bool) (f178 : DenS I178 → DenS O178) (a0 : Den (.slice (.int .u64))) : Option (DenS O151) :=
  bif (p173 (a0, ())) then
  (bif (((f173 (a0, ())).1.length : Int) == (0 : Int)) then
  (some ((0 : Int), ()))
  else bif ((decide ((0 : Int) ≤ (Go.IntKind.wrap Go.IntKind.i64 (((f173 (a0, ())).1.length : Int) - (1 : Int))))) && (decide ((Go.IntKind.wrap Go.IntKind.i64 (((f173 (a0, ())).1.length : Int) - (1 : Int))) < ((f173 (a0, ())).1.length : Int)))) then
  (bif (p178 (((f173 (a0, ())).1.getD (Int.toNat (Go.IntKind.wrap Go.IntKind.i64 (((f173 (a0, ())).1.length : Int) - (1 : Int)))) (0 : Int)), ())) then
  (some ((Go.IntKind.wrap Go.IntKind.i64 ((Go.IntKind.wrap Go.IntKind.i64 ((64 : Int) * (Go.IntKind.wrap Go.IntKind.i64 (((f173 (a0, ())).1.length : Int) - (1 : Int))))) + (f178 (((f173 (a0, ())).1.getD (Int.toNat (Go.IntKind.wrap Go.IntKind.i64 (((f173 (a0, ())).1.length : Int) - (1 : Int)))) (0 : Int)), ())).1)), ()))
  else none)
  else none)
  else none
theorem r151 (p173 : DenS I173 → Bool) (f173 : DenS I173 → DenS O173) (p178 : DenS I178 → Bool) (f178 : DenS I178 → DenS O178) (a0 : Den (.slice (.int .u64))) :
    run { P := Go.Proofs.Tryz.prog, sums := [(188, ⟨I173, O173, p173, f173⟩), (109, ⟨I178, O178, p178, f178⟩)], loops := [], globs := G1 } 9 155 Go.Proofs.Tryz.f155 I151 O151 (a0, ()) = t151 p173 f173 p178 f178 a0 := by kernel_rfl
noncomputable def T151 (x : DenS I151) : Option (DenS O151) := t151 S173.pre S173.F S178.pre S178.F x.1
noncomputable def C151 : Cfg := { P := Go.Proofs.Tryz.prog, sums := [(188, S173), (109, S178)], loops := [], globs := G1 }
noncomputable def S151 : Sum := sumOf I151 O151 T151 (DenS.dflt O151)
theorem S151_sound : Sound Go.Proofs.Tryz.prog G1 155 S151 :=
  fn_sound C151 9 155 Go.Proofs.Tryz.f155 mixedOk (by kernel_rfl) (by kernel_rfl) (by kernel_rfl) ⟨S173_sound, ⟨S178_sound, trivial⟩⟩ trivial I151 O151 T151 _ (fun x => r151 S173.pre S173.F S178.pre S178.F x.1)
/-- (vernier/round.number).top -/
abbrev I148 : Sig := [(true, .pair (.bool) (.pair (.slice (.int .u64)) (.pair (.int .i64) (.pair (.bool) (.unit)))))]
abbrev O148 : Sig := [(false, .int .i64)]
noncomputable def t148 (p151 : DenS I151 → Bool) (f151 : DenS I151 → DenS O151) (a0 : Den (.pair (.bool) (.pair (.slice (.int .u64)) (.pair (.int .i64) (.pair (.bool) (.unit)))))) : Option (DenS O148) :=
  bif (p151 (a0.2.1, ())) then
  (some ((Go.IntKind.wrap Go.IntKind.i64 ((Go.IntKind.wrap Go.IntKind.i64 (a0.2.2.1 + (f151 (a0.2.1, ())).1)) - (1 : Int))), ()))
  else none
theorem r148 (p151 : DenS I151 → Bool) (f151 : DenS I151 → DenS O151) (a0 : Den (.pair (.bool) (.pair (.slice (.int .u64)) (.pair (.int .i64) (.pair (.bool) (.unit)))))) :
    run { P := Go.Proofs.Tryz.prog, sums := [(155, ⟨I151, O151, p151, f151⟩)], loops := [], globs := G1 } 9 164 Go.Proofs.Tryz.f164 I148 O148 (a0, ()) = t148 p151 f151 a0 := by kernel_rfl
noncomputable def T148 (x : DenS I148) : Option (DenS O148) := t148 S151.pre S151.F x.1
noncomputable def C148 : Cfg := { P := Go.Proofs.Tryz.prog, sums := [(155, S151)], loops := [], globs := G1 }
noncomputable def S148 : Sum := sumOf I148 O148 T148 (DenS.dflt O148)
theorem S148_sound : Sound Go.Proofs.Tryz.prog G1 164 S148 :=
  fn_sound C148 9 164 Go.Proofs.Tryz.f164 mixedOk (by kernel_rfl) (by kernel_rfl) (by kernel_rfl) ⟨S151_sound, trivial⟩ trivial I148 O148 T148 _ (fun x => r148 S151.pre S151.F x.1)
/-- vernier/nat.trim -/
abbrev I1173 : Sig := [(true, .slice (.int .u64))]
abbrev O1173 : Sig := [(true, .slice (.int .u64))]
abbrev P1173_2 : Pat := ⟨21, [(0, .one (.own 0)), (3, .one (.v .i64))], [.arr (.int .u64)]⟩
abbrev A1173_2 : List (Nat × Shape) := []
abbrev X1173_2 : List (Nat × Pat) := [(0, ⟨21, [(0, .one (.own 0)), (3, .one (.v .i64))], [.arr (.int .u64)]⟩)]
abbrev Q1173_2 : Option Pat := none
noncomputable def h1173_2 {R : Type} (L : Pat.D P1173_2 → Option R) (e : OutT X1173_2 Q1173_2 → Option R) (x : Pat.D P1173_2) : Option R :=
  bif (((decide ((0 : Int) ≤ (Go.IntKind.wrap Go.IntKind.i64 (x.1.2.1 - (1 : Int))))) && (decide ((Go.IntKind.wrap Go.IntKind.i64 (x.1.2.1 - (1 : Int))) < (x.2.1.length : Int)))) || (!(decide (x.1.2.1 > (0 : Int))))) then
  (bif ((decide (x.1.2.1 > (0 : Int))) && ((x.2.1.getD (Int.toNat (Go.IntKind.wrap Go.IntKind.i64 (x.1.2.1 - (1 : Int)))) (0 : Int)) == (0 : Int))) then
  ((L (((), ((Go.IntKind.wrap Go.IntKind.i64 (x.1.2.1 - (1 : Int))), ())), x.2)))
  else (e (.inl (((), x.1.2), x.2))))
  else none
theorem s1173_2 (w1173_2 : Pat.D P1173_2 → Option (OutT X1173_2 Q1173_2)) (d : Nat) (R : Type) (L : Pat.D P1173_2 → Option R) (e : OutT X1173_2 Q1173_2 → Option R) (x : Pat.D P1173_2) :
    lStep { P := Go.Proofs.Tryz.prog, sums := [], loops := [(188, 2, LoopSpec.of P1173_2 A1173_2 X1173_2 Q1173_2 w1173_2)], globs := G1, keep := true } (d + 2) 188 (bodyOf Go.Proofs.Tryz.f188 2) P1173_2 A1173_2 X1173_2 Q1173_2 (R := R) L e x = h1173_2 L e x := by kernel_rfl
theorem m1173_2 : Par fun L e x => h1173_2 L e x := by
  intro A B rel L L' e e' h0 hL he x
  unfold h1173_2
  repeat' (first | exact h0 | exact hL _ | exact he _ | apply rel_cond | (apply rel_obind h0; intro _) | (apply rel_obind2 <;> intro _))
noncomputable def t1173 (w1173_2 : Pat.D P1173_2 → Option (OutT X1173_2 Q1173_2)) (a0 : Den (.slice (.int .u64))) : Option (DenS O1173) :=
  Vx.obind (w1173_2 (((), ((a0.length : Int), ())), (a0, ()))) fun y0 =>
  Vx.obind2 y0 (fun y1 =>
  bif ((decide ((0 : Int) ≤ y1.1.2.1)) && (decide (y1.1.2.1 ≤ (y1.2.1.length : Int)))) then
  (some ((y1.2.1.take (Int.toNat y1.1.2.1)), ()))
  else none) (fun z1 =>
  none)
theorem r1173 (w1173_2 : Pat.D P1173_2 → Option (OutT X1173_2 Q1173_2)) (a0 : Den (.slice (.int .u64))) :
    run { P := Go.Proofs.Tryz.prog, sums := [], loops := [(188, 2, LoopSpec.of P1173_2 A1173_2 X1173_2 Q1173_2 w1173_2)], globs := G1, keep := true } 9 188 Go.Proofs.Tryz.f188 I1173 O1173 (a0, ()) = t1173 w1173_2 a0 := by kernel_rfl
noncomputable def W1173_2 : P1173_2.D → Option (OutT X1173_2 Q1173_2) := lfix fun L => h1173_2 L some
noncomputable def T1173 (x : DenS I1173) : Option (DenS O1173) := t1173 W1173_2 x.1
noncomputable def C1173 : Cfg := { P := Go.Proofs.Tryz.prog, sums := [], loops := [(188, 2, LoopSpec.of P1173_2 A1173_2 X1173_2 Q1173_2 W1173_2)], globs := G1, keep := true }
noncomputable def S1173 : Sum := sumOf I1173 O1173 T1173 (DenS.dflt O1173)
theorem S1173_sound : Sound Go.Proofs.Tryz.prog G1 188 S1173 :=
  fn_sound C1173 9 188 Go.Proofs.Tryz.f188 mixedOk (by kernel_rfl) (by kernel_rfl) (by kernel_rfl) trivial ⟨rfl, fun d => loopOk_of (fun L e x => h1173_2 L e x) (m1173_2) (fun R L e x => s1173_2 W1173_2 d R L e x), trivial⟩ I1173 O1173 T1173 _ (fun x => r1173 W1173_2 x.1)
/-- vernier/nat.right -/
abbrev I1171 : Sig := [(false, .slice (.int .u64)), (false, .int .i64)]
abbrev O1171 : Sig := [(true, .slice (.int .u64))]
abbrev P1171_7 : Pat := ⟨66, [(25, .one (.v .i64)), (0, .one (.sl (.int .u64))), (5, .one (.v .i64)), (6, .one (.v .i64)), (26, .one (.v .i64)), (7, .one (.own 0))], [.arr (.int .u64)]⟩
abbrev A1171_7 : List (Nat × Shape) := []
abbrev X1171_7 : List (Nat × Pat) := [(0, ⟨66, [(7, .one (.own 0))], [.arr (.int .u64)]⟩)]
abbrev Q1171_7 : Option Pat := none
noncomputable def h1171_7 (p1173 : DenS I1173 → Bool) (f1173 : DenS I1173 → DenS O1173) (p173 : DenS I173 → Bool) (f173 : DenS I173 → DenS O173) {R : Type} (L : Pat.D P1171_7 → Option R) (e : OutT X1171_7 Q1171_7 → Option R) (x : Pat.D P1171_7) : Option R :=
  bif (decide (x.1.2.2.2.2.1 < x.1.1)) then
  (bif ((decide ((0 : Int) ≤ (Go.IntKind.wrap Go.IntKind.i64 (x.1.2.2.1 + x.1.2.2.2.2.1)))) && (decide ((Go.IntKind.wrap Go.IntKind.i64 (x.1.2.2.1 + x.1.2.2.2.2.1)) < (x.1.2.1.length : Int)))) then
  (bif (decide ((0 : Int) ≤ x.1.2.2.2.1)) then
  (bif ((decide ((0 : Int) ≤ x.1.2.2.2.2.1)) && (decide (x.1.2.2.2.2.1 < (x.2.1.length : Int)))) then
  (bif (decide ((Go.IntKind.wrap Go.IntKind.i64 ((Go.IntKind.wrap Go.IntKind.i64 (x.1.2.2.1 + x.1.2.2.2.2.1)) + (1 : Int))) < (x.1.2.1.length : Int))) then
  (bif ((decide ((0 : Int) ≤ x.1.2.2.2.2.1)) && (decide (x.1.2.2.2.2.1 < ((x.2.1.set (Int.toNat x.1.2.2.2.2.1) (Vx.shrI Go.IntKind.u64 (x.1.2.1.getD (Int.toNat (Go.IntKind.wrap Go.IntKind.i64 (x.1.2.2.1 + x.1.2.2.2.2.1))) (0 : Int)) x.1.2.2.2.1)).length : Int)))) then
  (bif ((decide ((0 : Int) ≤ (Go.IntKind.wrap Go.IntKind.i64 ((Go.IntKind.wrap Go.IntKind.i64 (x.1.2.2.1 + x.1.2.2.2.2.1)) + (1 : Int))))) && (decide ((Go.IntKind.wrap Go.IntKind.i64 ((Go.IntKind.wrap Go.IntKind.i64 (x.1.2.2.1 + x.1.2.2.2.2.1)) + (1 : Int))) < (x.1.2.1.length : Int)))) then
  (bif (decide ((0 : Int) ≤ (Go.IntKind.wrap Go.IntKind.i64 ((64 : Int) - x.1.2.2.2.1)))) then
  (bif ((decide ((0 : Int) ≤ x.1.2.2.2.2.1)) && (decide (x.1.2.2.2.2.1 < ((x.2.1.set (Int.toNat x.1.2.2.2.2.1) (Vx.shrI Go.IntKind.u64 (x.1.2.1.getD (Int.toNat (Go.IntKind.wrap Go.IntKind.i64 (x.1.2.2.1 + x.1.2.2.2.2.1))) (0 : Int)) x.1.2.2.2.1)).length : Int)))) then
  ((L ((x.1.1, (x.1.2.1, (x.1.2.2.1, (x.1.2.2.2.1, ((Go.IntKind.wrap Go.IntKind.i64 (x.1.2.2.2.2.1 + (1 : Int))), ((), ())))))), (((x.2.1.set (Int.toNat x.1.2.2.2.2.1) (Vx.shrI Go.IntKind.u64 (x.1.2.1.getD (Int.toNat (Go.IntKind.wrap Go.IntKind.i64 (x.1.2.2.1 + x.1.2.2.2.2.1))) (0 : Int)) x.1.2.2.2.1)).set (Int.toNat x.1.2.2.2.2.1) (Vx.orI Go.IntKind.u64 ((x.2.1.set (Int.toNat x.1.2.2.2.2.1) (Vx.shrI Go.IntKind.u64 (x.1.2.1.getD (Int.toNat (Go.IntKind.wrap Go.IntKind.i64 (x.1.2.2.1 + x.1.2.2.2.2.1))) (0 : Int)) x.1.2.2.2.1)).getD (Int.toNat x.1.2.2.2.2.1) (0 : Int)) (Vx.shlI Go.IntKind.u64 (x.1.2.1.getD (Int.toNat (Go.IntKind.wrap Go.IntKind.i64 ((Go.IntKind.wrap Go.IntKind.i64 (x.1.2.2.1 + x.1.2.2.2.2.1)) + (1 : Int)))) (0 : Int)) (Go.IntKind.wrap Go.IntKind.i64 ((64 : Int) - x.1.2.2.2.1))))), ()))))
  else none)
  else none)
  else none)
  else none)
  else (L ((x.1.1, (x.1.2.1, (x.1.2.2.1, (x.1.2.2.2.1, ((Go.IntKind.wrap Go.IntKind.i64 (x.1.2.2.2.2.1 + (1 : Int))), ((), ())))))), ((x.2.1.set (Int.toNat x.1.2.2.2.2.1) (Vx.shrI Go.IntKind.u64 (x.1.2.1.getD (Int.toNat (Go.IntKind.wrap Go.IntKind.i64 (x.1.2.2.1 + x.1.2.2.2.2.1))) (0 : Int)) x.1.2.2.2.1)), ()))))
  else none)
  else none)
  else none)
  else (e (.inl (((), ()), x.2)))
theorem s1171_7 (p1173 : DenS I1173 → Bool) (f1173 : DenS I1173 → DenS O1173) (p173 : DenS I173 → Bool) (f173 : DenS I173 → DenS O173) (w1171_7 : Pat.D P1171_7 → Option (OutT X1171_7 Q1171_7)) (d : Nat) (R : Type) (L : Pat.D P1171_7 → Option R) (e : OutT X1171_7 Q1171_7 → Option R) (x : Pat.D P1171_7) :
    lStep { P := Go.Proofs.Tryz.prog, sums := [(188, ⟨I1173, O1173, p1173, f1173⟩), (188, ⟨I173, O173, p173, f173⟩)], loops := [(210, 7, LoopSpec.of P1171_7 A1171_7 X1171_7 Q1171_7 w1171_7)], globs := G1, keep := true } (d + 2) 210 (bodyOf Go.Proofs.Tryz.f210 7) P1171_7 A1171_7 X1171_7 Q1171_7 (R := R) L e x = h1171_7 p1173 f1173 p173 f173 L e x := by kernel_rfl
theorem m1171_7 (p1173 : DenS I1173 → Bool) (f1173 : DenS I1173 → DenS O1173) (p173 : DenS I173 → Bool) (f173 : DenS I173 → DenS O173) : Par fun L e x => h1171_7 p1173 f1173 p173 f173 L e x := by
  intro A B rel L L' e e' h0 hL he x
  unfold h1171_7
  repeat' (first | exact h0 | exact hL _ | exact he _ | apply rel_cond | (apply rel_obind h0; intro _) | (apply rel_obind2 <;> intro _))
noncomputable def t1171 (p1173 : DenS I1173 → Bool) (f1173 : DenS I1173 → DenS O1173) (p173 : DenS I173 → Bool) (f173 : DenS I173 → DenS O173) (w1171_7 : Pat.D P1171_7 → Option (OutT X1171_7 Q1171_7)) (a0 : Den (.slice (.int .u64))) (a1 : Den (.int .i64)) : Option (DenS O1171) :=
  bif (p173 (a0, ())) then
  (bif (decide ((Vx.quoI Go.IntKind.i64 a1 (64 : Int)) ≥ ((f173 (a0, ())).1.length : Int))) then
  (some ([], ()))
  else bif ((decide ((0 : Int) ≤ (Go.IntKind.wrap Go.IntKind.i64 (((f173 (a0, ())).1.length : Int) - (Vx.quoI Go.IntKind.i64 a1 (64 : Int)))))) && (decide (((Go.IntKind.wrap Go.IntKind.i64 (((f173 (a0, ())).1.length : Int) - (Vx.quoI Go.IntKind.i64 a1 (64 : Int)))) * (8 : Int)) ≤ (140737488355328 : Int)))) then
  (Vx.obind (w1171_7 ((((List.replicate (Int.toNat (Go.IntKind.wrap Go.IntKind.i64 (((f173 (a0, ())).1.length : Int) - (Vx.quoI Go.IntKind.i64 a1 (64 : Int))))) (0 : Int)).length : Int), ((f173 (a0, ())).1, ((Vx.quoI Go.IntKind.i64 a1 (64 : Int)), ((Int.tmod a1 (64 : Int)), ((0 : Int), ((), ())))))), ((List.replicate (Int.toNat (Go.IntKind.wrap Go.IntKind.i64 (((f173 (a0, ())).1.length : Int) - (Vx.quoI Go.IntKind.i64 a1 (64 : Int))))) (0 : Int)), ()))) fun y3 =>
  Vx.obind2 y3 (fun y4 =>
  bif (p1173 y4.2) then
  (some (f1173 y4.2))
  else none) (fun z4 =>
  none))
  else none)
  else none
theorem r1171 (p1173 : DenS I1173 → Bool) (f1173 : DenS I1173 → DenS O1173) (p173 : DenS I173 → Bool) (f173 : DenS I173 → DenS O173) (w1171_7 : Pat.D P1171_7 → Option (OutT X1171_7 Q1171_7)) (a0 : Den (.slice (.int .u64))) (a1 : Den (.int .i64)) :
    run { P := Go.Proofs.Tryz.prog, sums := [(188, ⟨I1173, O1173, p1173, f1173⟩), (188, ⟨I173, O173, p173, f173⟩)], loops := [(210, 7, LoopSpec.of P1171_7 A1171_7 X1171_7 Q1171_7 w1171_7)], globs := G1, keep := true } 9 210 Go.Proofs.Tryz.f210 I1171 O1171 (a0, a1, ()) = t1171 p1173 f1173 p173 f173 w1171_7 a0 a1 := by kernel_rfl
noncomputable def W1171_7 : P1171_7.D → Option (OutT X1171_7 Q1171_7) := lfix fun L => h1171_7 S1173.pre S1173.F S173.pre S173.F L some
noncomputable def T1171 (x : DenS I1171) : Option (DenS O1171) := t1171 S1173.pre S1173.F S173.pre S173.F W1171_7 x.1 x.2.1
noncomputable def C1171 : Cfg := { P := Go.Proofs.Tryz.prog, sums := [(188, S1173), (188, S173)], loops := [(210, 7, LoopSpec.of P1171_7 A1171_7 X1171_7 Q1171_7 W1171_7)], globs := G1, keep := true }
noncomputable def S1171 : Sum := sumOf I1171 O1171 T1171 (DenS.dflt O1171)
theorem S1171_sound : Sound Go.Proofs.Tryz.prog G1 210 S1171 :=
  fn_sound C1171 9 210 Go.Proofs.Tryz.f210 mixedOk (by kernel_rfl) (by kernel_rfl) (by kernel_rfl) ⟨S1173_sound, ⟨S173_sound, trivial⟩⟩ ⟨rfl, fun d => loopOk_of (fun L e x => h1171_7 S1173.pre S1173.F S173.pre S173.F L e x) (m1171_7 S1173.pre S1173.F S173.pre S173.F) (fun R L e x => s1171_7 S1173.pre S1173.F S173.pre S173.F W1171_7 d R L e x), trivial⟩ I1171 O1171 T1171 _ (fun x => r1171 S1173.pre S1173.F S173.pre S173.F W1171_7 x.1 x.2.1)
/-- vernier/nat.divides -/
abbrev I184 : Sig := [(false, .slice (.int .u64)), (false, .int .i64)]
abbrev O184 : Sig := [(false, .bool)]
abbrev P184_2 : Pat := ⟨25, [(9, .one (.v .i64)), (8, .one (.sl (.int .u64))), (1, .one (.v .i64)), (10, .one (.v .i64))], []⟩
abbrev A184_2 : List (Nat × Shape) := []
abbrev X184_2 : List (Nat × Pat) := [(0, ⟨25, [], []⟩)]
abbrev Q184_2 : Option Pat := (some ⟨25, [(4, .one (.bool))], []⟩)
noncomputable def h184_2 (p173 : DenS I173 → Bool) (f173 : DenS I173 → DenS O173) (p92 : DenS I92 → Bool) (f92 : DenS I92 → DenS O92) {R : Type} (L : Pat.D P184_2 → Option R) (e : OutT X184_2 Q184_2 → Option R) (x : Pat.D P184_2) : Option R :=
  bif (decide (x.1.2.2.2.1 < x.1.1)) then
  (bif ((decide ((0 : Int) ≤ x.1.2.2.2.1)) && (decide (x.1.2.2.2.1 < (x.1.2.1.length : Int)))) then
  (bif ((x.1.2.1.getD (Int.toNat x.1.2.2.2.1) (0 : Int)) != (0 : Int)) then
  (bif (p92 ((x.1.2.1.getD (Int.toNat x.1.2.2.2.1) (0 : Int)), ())) then
  ((e (.inr (((decide ((Go.IntKind.wrap Go.IntKind.i64 ((Go.IntKind.wrap Go.IntKind.i64 ((64 : Int) * x.1.2.2.2.1)) + (f92 ((x.1.2.1.getD (Int.toNat x.1.2.2.2.1) (0 : Int)), ())).1)) ≥ x.1.2.2.1)), ()), ()))))
  else none)
  else (L ((x.1.1, (x.1.2.1, (x.1.2.2.1, ((Go.IntKind.wrap Go.IntKind.i64 (x.1.2.2.2.1 + (1 : Int))), ())))), ())))
  else none)
  else (e (.inl ((), ())))
theorem s184_2 (p173 : DenS I173 → Bool) (f173 : DenS I173 → DenS O173) (p92 : DenS I92 → Bool) (f92 : DenS I92 → DenS O92) (w184_2 : Pat.D P184_2 → Option (OutT X184_2 Q184_2)) (d : Nat) (R : Type) (L : Pat.D P184_2 → Option R) (e : OutT X184_2 Q184_2 → Option R) (x : Pat.D P184_2) :
    lStep { P := Go.Proofs.Tryz.prog, sums := [(188, ⟨I173, O173, p173, f173⟩), (135, ⟨I92, O92, p92, f92⟩)], loops := [(211, 2, LoopSpec.of P184_2 A184_2 X184_2 Q184_2 w184_2)], globs := G1 } (d + 2) 211 (bodyOf Go.Proofs.Tryz.f211 2) P184_2 A184_2 X184_2 Q184_2 (R := R) L e x = h184_2 p173 f173 p92 f92 L e x := by kernel_rfl
theorem m184_2 (p173 : DenS I173 → Bool) (f173 : DenS I173 → DenS O173) (p92 : DenS I92 → Bool) (f92 : DenS I92 → DenS O92) : Par fun L e x => h184_2 p173 f173 p92 f92 L e x := by
  intro A B rel L L' e e' h0 hL he x
  unfold h184_2
  repeat' (first | exact h0 | exact hL _ | exact he _ | apply rel_cond | (apply rel_obind h0; intro _) | (apply rel_obind2 <;> intro _))
noncomputable def t184 (p173 : DenS I173 → Bool) (f173 : DenS I173 → DenS O173) (p92 : DenS I92 → Bool) (f92 : DenS I92 → DenS O92) (w184_2 : Pat.D P184_2 → Option (OutT X184_2 Q184_2)) (a0 : Den (.slice (.int .u64))) (a1 : Den (.int .i64)) : Option (DenS O184) :=
  bif (p173 (a0, ())) then
  (Vx.obind (w184_2 ((((f173 (a0, ())).1.length : Int), ((f173 (a0, ())).1, (a1, ((0 : Int), ())))), ())) fun y1 =>
  Vx.obind2 y1 (fun y2 =>
  some (true, ())) (fun z2 =>
  some z2.1))
  else none
theorem r184 (p173 : DenS I173 → Bool) (f173 : DenS I173 → DenS O173) (p92 : DenS I92 → Bool) (f92 : DenS I92 → DenS O92) (w184_2 : Pat.D P184_2 → Option (OutT X184_2 Q184_2)) (a0 : Den (.slice (.int .u64))) (a1 : Den (.int .i64)) :
    run { P := Go.Proofs.Tryz.prog, sums := [(188, ⟨I173, O173, p173, f173⟩), (135, ⟨I92, O92, p92, f92⟩)], loops := [(211, 2, LoopSpec.of P184_2 A184_2 X184_2 Q184_2 w184_2)], globs := G1 } 9 211 Go.Proofs.Tryz.f211 I184 O184 (a0, a1, ()) = t184 p173 f173 p92 f92 w184_2 a0 a1 := by kernel_rfl
noncomputable def W184_2 : P184_2.D → Option (OutT X184_2 Q184_2) := lfix fun L => h184_2 S173.pre S173.F S92.pre S92.F L some
noncomputable def T184 (x : DenS I184) : Option (DenS O184) := t184 S173.pre S173.F S92.pre S92.F W184_2 x.1 x.2.1
noncomputable def C184 : Cfg := { P := Go.Proofs.Tryz.prog, sums := [(188, S173), (135, S92)], loops := [(211, 2, LoopSpec.of P184_2 A184_2 X184_2 Q184_2 W184_2)], globs := G1 }
noncomputable def S184 : Sum := sumOf I184 O184 T184 (DenS.dflt O184)
theorem S184_sound : Sound Go.Proofs.Tryz.prog G1 211 S184 :=
  fn_sound C184 9 211 Go.Proofs.Tryz.f211 mixedOk (by kernel_rfl) (by kernel_rfl) (by kernel_rfl) ⟨S173_sound, ⟨S92_sound, trivial⟩⟩ ⟨rfl, fun d => loopOk_of (fun L e x => h184_2 S173.pre S173.F S92.pre S92.F L e x) (m184_2 S173.pre S173.F S92.pre S92.F) (fun R L e x => s184_2 S173.pre S173.F S92.pre S92.F W184_2 d R L e x), trivial⟩ I184 O184 T184 _ (fun x => r184 S173.pre S173.F S92.pre S92.F W184_2 x.1 x.2.1)
/-- vernier/nat.Jam -/
abbrev I175 : Sig := [(false, .slice (.int .u64)), (false, .int .i64)]
abbrev O175 : Sig := [(false, .slice (.int .u64)), (false, .int .i64)]
noncomputable def t175 (p1171 : DenS I1171 → Bool) (f1171 : DenS I1171 → DenS O1171) (p171 : DenS I171 → Bool) (f171 : DenS I171 → DenS O171) (p184 : DenS I184 → Bool) (f184 : DenS I184 → DenS O184) (a0 : Den (.slice (.int .u64))) (a1 : Den (.int .i64)) : Option (DenS O175) :=
  bif (decide (a1 < (0 : Int))) then
  (some ([], ((7 : Int), ())))
  else bif (p1171 (a0, (a1, ()))) then
  (bif (p184 (a0, (a1, ()))) then
  (bif (!(f184 (a0, (a1, ()))).1) then
  (bif (((f1171 (a0, (a1, ()))).1.length : Int) == (0 : Int)) then
  (some (((1 : Int) :: []), ((0 : Int), ())))
  else bif (decide ((0 : Int) < ((f1171 (a0, (a1, ()))).1.length : Int))) then
  (bif (decide ((0 : Int) < ((f1171 (a0, (a1, ()))).1.length : Int))) then
  (some (((f1171 (a0, (a1, ()))).1.set (Int.toNat (0 : Int)) (Vx.orI Go.IntKind.u64 ((f1171 (a0, (a1, ()))).1.getD (Int.toNat (0 : Int)) (0 : Int)) (1 : Int))), ((0 : Int), ())))
  else none)
  else none)
  else some ((f1171 (a0, (a1, ()))).1, ((0 : Int), ())))
  else none)
  else none
theorem r175 (p1171 : DenS I1171 → Bool) (f1171 : DenS I1171 → DenS O1171) (p171 : DenS I171 → Bool) (f171 : DenS I171 → DenS O171) (p184 : DenS I184 → Bool) (f184 : DenS I184 → DenS O184) (a0 : Den (.slice (.int .u64))) (a1 : Den (.int .i64)) :
    run { P := Go.Proofs.Tryz.prog, sums := [(210, ⟨I1171, O1171, p1171, f1171⟩), (210, ⟨I171, O171, p171, f171⟩), (211, ⟨I184, O184, p184, f184⟩)], loops := [], globs := G1 } 9 196 Go.Proofs.Tryz.f196 I175 O175 (a0, a1, ()) = t175 p1171 f1171 p171 f171 p184 f184 a0 a1 := by kernel_rfl
noncomputable def T175 (x : DenS I175) : Option (DenS O175) := t175 S1171.pre S1171.F S171.pre S171.F S184.pre S184.F x.1 x.2.1
noncomputable def C175 : Cfg := { P := Go.Proofs.Tryz.prog, sums := [(210, S1171), (210, S171), (211, S184)], loops := [], globs := G1 }
noncomputable def S175 : Sum := sumOf I175 O175 T175 (DenS.dflt O175)
theorem S175_sound : Sound Go.Proofs.Tryz.prog G1 196 S175 :=
  fn_sound C175 9 196 Go.Proofs.Tryz.f196 mixedOk (by kernel_rfl) (by kernel_rfl) (by kernel_rfl) ⟨S1171_sound, ⟨S171_sound, ⟨S184_sound, trivial⟩⟩⟩ trivial I175 O175 T175 _ (fun x => r175 S1171.pre S1171.F S171.pre S171.F S184.pre S184.F x.1 x.2.1)
/-- vernier/nat.left -/
abbrev I186 : Sig := [(false, .slice (.int .u64)), (false, .int .i64)]
abbrev O186 : Sig := [(false, .slice (.int .u64))]
abbrev P186_7 : Pat := ⟨56, [(26, .one (.v .i64)), (25, .one (.sl (.int .u64))), (5, .one (.v .i64)), (6, .one (.v .i64)), (27, .one (.v .i64)), (7, .one (.own 0))], [.arr (.int .u64)]⟩
abbrev A186_7 : List (Nat × Shape) := []
abbrev X186_7 : List (Nat × Pat) := [(0, ⟨56, [(7, .one (.own 0))], [.arr (.int .u64)]⟩)]
abbrev Q186_7 : Option Pat := none
noncomputable def h186_7 (p173 : DenS I173 → Bool) (f173 : DenS I173 → DenS O173) {R : Type} (L : Pat.D P186_7 → Option R) (e : OutT X186_7 Q186_7 → Option R) (x : Pat.D P186_7) : Option R :=
  bif (decide (x.1.2.2.2.2.1 < x.1.1)) then
  (bif ((decide ((0 : Int) ≤ x.1.2.2.2.2.1)) && (decide (x.1.2.2.2.2.1 < (x.1.2.1.length : Int)))) then
  (bif ((decide ((0 : Int) ≤ (Go.IntKind.wrap Go.IntKind.i64 (x.1.2.2.1 + x.1.2.2.2.2.1)))) && (decide ((Go.IntKind.wrap Go.IntKind.i64 (x.1.2.2.1 + x.1.2.2.2.2.1)) < (x.2.1.length : Int)))) then
  (bif (decide ((0 : Int) ≤ x.1.2.2.2.1)) then
  (bif ((decide ((0 : Int) ≤ (Go.IntKind.wrap Go.IntKind.i64 (x.1.2.2.1 + x.1.2.2.2.2.1)))) && (decide ((Go.IntKind.wrap Go.IntKind.i64 (x.1.2.2.1 + x.1.2.2.2.2.1)) < (x.2.1.length : Int)))) then
  (bif (decide ((0 : Int) ≤ (Go.IntKind.wrap Go.IntKind.i64 ((64 : Int) - x.1.2.2.2.1)))) then
  (bif ((decide ((0 : Int) ≤ (Go.IntKind.wrap Go.IntKind.i64 ((Go.IntKind.wrap Go.IntKind.i64 (x.1.2.2.1 + x.1.2.2.2.2.1)) + (1 : Int))))) && (decide ((Go.IntKind.wrap Go.IntKind.i64 ((Go.IntKind.wrap Go.IntKind.i64 (x.1.2.2.1 + x.1.2.2.2.2.1)) + (1 : Int))) < ((x.2.1.set (Int.toNat (Go.IntKind.wrap Go.IntKind.i64 (x.1.2.2.1 + x.1.2.2.2.2.1))) (Vx.orI Go.IntKind.u64 (x.2.1.getD (Int.toNat (Go.IntKind.wrap Go.IntKind.i64 (x.1.2.2.1 + x.1.2.2.2.2.1))) (0 : Int)) (Vx.shlI Go.IntKind.u64 (x.1.2.1.getD (Int.toNat x.1.2.2.2.2.1) (0 : Int)) x.1.2.2.2.1))).length : Int)))) then
  ((L ((x.1.1, (x.1.2.1, (x.1.2.2.1, (x.1.2.2.2.1, ((Go.IntKind.wrap Go.IntKind.i64 (x.1.2.2.2.2.1 + (1 : Int))), ((), ())))))), (((x.2.1.set (Int.toNat (Go.IntKind.wrap Go.IntKind.i64 (x.1.2.2.1 + x.1.2.2.2.2.1))) (Vx.orI Go.IntKind.u64 (x.2.1.getD (Int.toNat (Go.IntKind.wrap Go.IntKind.i64 (x.1.2.2.1 + x.1.2.2.2.2.1))) (0 : Int)) (Vx.shlI Go.IntKind.u64 (x.1.2.1.getD (Int.toNat x.1.2.2.2.2.1) (0 : Int)) x.1.2.2.2.1))).set (Int.toNat (Go.IntKind.wrap Go.IntKind.i64 ((Go.IntKind.wrap Go.IntKind.i64 (x.1.2.2.1 + x.1.2.2.2.2.1)) + (1 : Int)))) (Vx.shrI Go.IntKind.u64 (x.1.2.1.getD (Int.toNat x.1.2.2.2.2.1) (0 : Int)) (Go.IntKind.wrap Go.IntKind.i64 ((64 : Int) - x.1.2.2.2.1)))), ()))))
  else none)
  else none)
  else none)
  else none)
  else none)
  else none)
  else (e (.inl (((), ()), x.2)))
theorem s186_7 (p173 : DenS I173 → Bool) (f173 : DenS I173 → DenS O173) (w186_7 : Pat.D P186_7 → Option (OutT X186_7 Q186_7)) (d : Nat) (R : Type) (L : Pat.D P186_7 → Option R) (e : OutT X186_7 Q186_7 → Option R) (x : Pat.D P186_7) :
    lStep { P := Go.Proofs.Tryz.prog, sums := [(188, ⟨I173, O173, p173, f173⟩)], loops := [(205, 7, LoopSpec.of P186_7 A186_7 X186_7 Q186_7 w186_7)], globs := G1 } (d + 2) 205 (bodyOf Go.Proofs.Tryz.f205 7) P186_7 A186_7 X186_7 Q186_7 (R := R) L e x = h186_7 p173 f173 L e x := by kernel_rfl
theorem m186_7 (p173 : DenS I173 → Bool) (f173 : DenS I173 → DenS O173) : Par fun L e x => h186_7 p173 f173 L e x := by
  intro A B rel L L' e e' h0 hL he x
  unfold h186_7
  repeat' (first | exact h0 | exact hL _ | exact he _ | apply rel_cond | (apply rel_obind h0; intro _) | (apply rel_obind2 <;> intro _))
noncomputable def t186 (p173 : DenS I173 → Bool) (f173 : DenS I173 → DenS O173) (w186_7 : Pat.D P186_7 → Option (OutT X186_7 Q186_7)) (a0 : Den (.slice (.int .u64))) (a1 : Den (.int .i64)) : Option (DenS O186) :=
  bif (p173 (a0, ())) then
  (bif (((f173 (a0, ())).1.length : Int) == (0 : Int)) then
  (some ([], ()))
  else bif ((decide ((0 : Int) ≤ (Go.IntKind.wrap Go.IntKind.i64 ((Go.IntKind.wrap Go.IntKind.i64 ((Vx.quoI Go.IntKind.i64 a1 (64 : Int)) + ((f173 (a0, ())).1.length : Int))) + (1 : Int))))) && (decide (((Go.IntKind.wrap Go.IntKind.i64 ((Go.IntKind.wrap Go.IntKind.i64 ((Vx.quoI Go.IntKind.i64 a1 (64 : Int)) + ((f173 (a0, ())).1.length : Int))) + (1 : Int))) * (8 : Int)) ≤ (140737488355328 : Int)))) then
  (Vx.obind (w186_7 ((((f173 (a0, ())).1.length : Int), ((f173 (a0, ())).1, ((Vx.quoI Go.IntKind.i64 a1 (64 : Int)), ((Int.tmod a1 (64 : Int)), ((0 : Int), ((), ())))))), ((List.replicate (Int.toNat (Go.IntKind.wrap Go.IntKind.i64 ((Go.IntKind.wrap Go.IntKind.i64 ((Vx.quoI Go.IntKind.i64 a1 (64 : Int)) + ((f173 (a0, ())).1.length : Int))) + (1 : Int)))) (0 : Int)), ()))) fun y3 =>
  Vx.obind2 y3 (fun y4 =>
  bif (p173 y4.2) then
  (some (f173 y4.2))
  else none) (fun z4 =>
  none))
  else none)
  else none
theorem r186 (p173 : DenS I173 → Bool) (f173 : DenS I173 → DenS O173) (w186_7 : Pat.D P186_7 → Option (OutT X186_7 Q186_7)) (a0 : Den (.slice (.int .u64))) (a1 : Den (.int .i64)) :
    run { P := Go.Proofs.Tryz.prog, sums := [(188, ⟨I173, O173, p173, f173⟩)], loops := [(205, 7, LoopSpec.of P186_7 A186_7 X186_7 Q186_7 w186_7)], globs := G1 } 9 205 Go.Proofs.Tryz.f205 I186 O186 (a0, a1, ()) = t186 p173 f173 w186_7 a0 a1 := by kernel_rfl
noncomputable def W186_7 : P186_7.D → Option (OutT X186_7 Q186_7) := lfix fun L => h186_7 S173.pre S173.F L some
noncomputable def T186 (x : DenS I186) : Option (DenS O186) := t186 S173.pre S173.F W186_7 x.1 x.2.1
noncomputable def C186 : Cfg := { P := Go.Proofs.Tryz.prog, sums := [(188, S173)], loops := [(205, 7, LoopSpec.of P186_7 A186_7 X186_7 Q186_7 W186_7)], globs := G1 }
noncomputable def S186 : Sum := sumOf I186 O186 T186 (DenS.dflt O186)
theorem S186_sound : Sound Go.Proofs.Tryz.prog G1 205 S186 :=
  fn_sound C186 9 205 Go.Proofs.Tryz.f205 mixedOk (by kernel_rfl) (by kernel_rfl) (by kernel_rfl) ⟨S173_sound, trivial⟩ ⟨rfl, fun d => loopOk_of (fun L e x => h186_7 S173.pre S173.F L e x) (m186_7 S173.pre S173.F) (fun R L e x => s186_7 S173.pre S173.F W186_7 d R L e x), trivial⟩ I186 O186 T186 _ (fun x => r186 S173.pre S173.F W186_7 x.1 x.2.1)
/-- vernier/nat.great -/
abbrev I185 : Sig := [(false, .slice (.slice (.int .u64)))]
abbrev O185 : Sig := [(false, .bool)]
abbrev P185_2 : Pat := ⟨16, [(6, .one (.v .i64)), (5, .one (.sl (.slice (.int .u64)))), (7, .one (.v .i64))], []⟩
abbrev A185_2 : List (Nat × Shape) := []
abbrev X185_2 : List (Nat × Pat) := [(0, ⟨16, [], []⟩)]
abbrev Q185_2 : Option Pat := (some ⟨16, [(2, .one (.bool))], []⟩)
noncomputable def h185_2 (p173 : DenS I173 → Bool) (f173 : DenS I173 → DenS O173) {R : Type} (L : Pat.D P185_2 → Option R) (e : OutT X185_2 Q185_2 → Option R) (x : Pat.D P185_2) : Option R :=
  bif (decide (x.1.2.2.1 < x.1.1)) then
  (bif ((decide ((0 : Int) ≤ x.1.2.2.1)) && (decide (x.1.2.2.1 < (x.1.2.1.length : Int)))) then
  (bif (p173 ((x.1.2.1.getD (Int.toNat x.1.2.2.1) []), ())) then
  (bif (decide (((f173 ((x.1.2.1.getD (Int.toNat x.1.2.2.1) []), ())).1.length : Int) > (1024 : Int))) then
  ((e (.inr ((true, ()), ()))))
  else (L ((x.1.1, (x.1.2.1, ((Go.IntKind.wrap Go.IntKind.i64 (x.1.2.2.1 + (1 : Int))), ()))), ())))
  else none)
  else none)
  else (e (.inl ((), ())))
theorem s185_2 (p173 : DenS I173 → Bool) (f173 : DenS I173 → DenS O173) (w185_2 : Pat.D P185_2 → Option (OutT X185_2 Q185_2)) (d : Nat) (R : Type) (L : Pat.D P185_2 → Option R) (e : OutT X185_2 Q185_2 → Option R) (x : Pat.D P185_2) :
    lStep { P := Go.Proofs.Tryz.prog, sums := [(188, ⟨I173, O173, p173, f173⟩)], loops := [(204, 2, LoopSpec.of P185_2 A185_2 X185_2 Q185_2 w185_2)], globs := G1 } (d + 2) 204 (bodyOf Go.Proofs.Tryz.f204 2) P185_2 A185_2 X185_2 Q185_2 (R := R) L e x = h185_2 p173 f173 L e x := by kernel_rfl
theorem m185_2 (p173 : DenS I173 → Bool) (f173 : DenS I173 → DenS O173) : Par fun L e x => h185_2 p173 f173 L e x := by
  intro A B rel L L' e e' h0 hL he x
  unfold h185_2
  repeat' (first | exact h0 | exact hL _ | exact he _ | apply rel_cond | (apply rel_obind h0; intro _) | (apply rel_obind2 <;> intro _))
noncomputable def t185 (p173 : DenS I173 → Bool) (f173 : DenS I173 → DenS O173) (w185_2 : Pat.D P185_2 → Option (OutT X185_2 Q185_2)) (a0 : Den (.slice (.slice (.int .u64)))) : Option (DenS O185) :=
  Vx.obind (w185_2 (((a0.length : Int), (a0, ((0 : Int), ()))), ())) fun y0 =>
  Vx.obind2 y0 (fun y1 =>
  some (false, ())) (fun z1 =>
  some z1.1)
theorem r185 (p173 : DenS I173 → Bool) (f173 : DenS I173 → DenS O173) (w185_2 : Pat.D P185_2 → Option (OutT X185_2 Q185_2)) (a0 : Den (.slice (.slice (.int .u64)))) :
    run { P := Go.Proofs.Tryz.prog, sums := [(188, ⟨I173, O173, p173, f173⟩)], loops := [(204, 2, LoopSpec.of P185_2 A185_2 X185_2 Q185_2 w185_2)], globs := G1 } 9 204 Go.Proofs.Tryz.f204 I185 O185 (a0, ()) = t185 p173 f173 w185_2 a0 := by kernel_rfl
noncomputable def W185_2 : P185_2.D → Option (OutT X185_2 Q185_2) := lfix fun L => h185_2 S173.pre S173.F L some
noncomputable def T185 (x : DenS I185) : Option (DenS O185) := t185 S173.pre S173.F W185_2 x.1
noncomputable def C185 : Cfg := { P := Go.Proofs.Tryz.prog, sums := [(188, S173)], loops := [(204, 2, LoopSpec.of P185_2 A185_2 X185_2 Q185_2 W185_2)], globs := G1 }
noncomputable def S185 : Sum := sumOf I185 O185 T185 (DenS.dflt O185)
theorem S185_sound : Sound Go.Proofs.Tryz.prog G1 204 S185 :=
  fn_sound C185 9 204 Go.Proofs.Tryz.f204 mixedOk (by kernel_rfl) (by kernel_rfl) (by kernel_rfl) ⟨S173_sound, trivial⟩ ⟨rfl, fun d => loopOk_of (fun L e x => h185_2 S173.pre S173.F L e x) (m185_2 S173.pre S173.F) (fun R L e x => s185_2 S173.pre S173.F W185_2 d R L e x), trivial⟩ I185 O185 T185 _ (fun x => r185 S173.pre S173.F W185_2 x.1)
/-- vernier/nat.Shl -/
abbrev I176 : Sig := [(false, .slice (.int .u64)), (false, .int .i64)]
abbrev O176 : Sig := [(false, .slice (.int .u64)), (false, .int .i64)]
noncomputable def t176 (p186 : DenS I186 → Bool) (f186 : DenS I186 → DenS O186) (p185 : DenS I185 → Bool) (f185 : DenS I185 → DenS O185) (a0 : Den (.slice (.int .u64))) (a1 : Den (.int .i64)) : Option (DenS O176) :=
  bif ((decide (a1 < (0 : Int))) || (decide (a1 > (65536 : Int)))) then
  (some ([], ((7 : Int), ())))
  else bif (p185 ((a0 :: []), ())) then
  (bif (f185 ((a0 :: []), ())).1 then
  (some ([], ((5 : Int), ())))
  else bif (p186 (a0, (a1, ()))) then
  (bif (p185 (((f186 (a0, (a1, ()))).1 :: []), ())) then
  (bif (f185 (((f186 (a0, (a1, ()))).1 :: []), ())).1 then
  (some ([], ((5 : Int), ())))
  else some ((f186 (a0, (a1, ()))).1, ((0 : Int), ())))
  else none)
  else none)
  else none
theorem r176 (p186 : DenS I186 → Bool) (f186 : DenS I186 → DenS O186) (p185 : DenS I185 → Bool) (f185 : DenS I185 → DenS O185) (a0 : Den (.slice (.int .u64))) (a1 : Den (.int .i64)) :
    run { P := Go.Proofs.Tryz.prog, sums := [(205, ⟨I186, O186, p186, f186⟩), (204, ⟨I185, O185, p185, f185⟩)], loops := [], globs := G1 } 9 189 Go.Proofs.Tryz.f189 I176 O176 (a0, a1, ()) = t176 p186 f186 p185 f185 a0 a1 := by kernel_rfl
noncomputable def T176 (x : DenS I176) : Option (DenS O176) := t176 S186.pre S186.F S185.pre S185.F x.1 x.2.1
noncomputable def C176 : Cfg := { P := Go.Proofs.Tryz.prog, sums := [(205, S186), (204, S185)], loops := [], globs := G1 }
noncomputable def S176 : Sum := sumOf I176 O176 T176 (DenS.dflt O176)
theorem S176_sound : Sound Go.Proofs.Tryz.prog G1 189 S176 :=
  fn_sound C176 9 189 Go.Proofs.Tryz.f189 mixedOk (by kernel_rfl) (by kernel_rfl) (by kernel_rfl) ⟨S186_sound, ⟨S185_sound, trivial⟩⟩ trivial I176 O176 T176 _ (fun x => r176 S186.pre S186.F S185.pre S185.F x.1 x.2.1)
/-- vernier/round.further -/
abbrev I177 : Sig := [(false, .int .i64), (false, .bool), (false, .bool), (false, .int .u64)]
abbrev O177 : Sig := [(false, .bool)]
noncomputable def t177 (a0 : Den (.int .i64)) (a1 : Den (.bool)) (a2 : Den (.bool)) (a3 : Den (.int .u64)) : Option (DenS O177) :=
  bif (a0 == (4 : Int)) then
  (some ((!(!a1)), ()))
  else bif (a0 == (3 : Int)) then
  (some ((!a1), ()))
  else bif (a0 == (0 : Int)) then
  (bif (a3 == (2 : Int)) then
  (some (a2, ()))
  else some ((decide (a3 ≥ (2 : Int))), ()))
  else bif (a0 == (1 : Int)) then
  (some ((decide (a3 ≥ (2 : Int))), ()))
  else bif (a0 == (5 : Int)) then
  (some ((!a2), ()))
  else some (false, ())
theorem r177 (a0 : Den (.int .i64)) (a1 : Den (.bool)) (a2 : Den (.bool)) (a3 : Den (.int .u64)) :
    run { P := Go.Proofs.Tryz.prog, sums := [], loops := [], globs := G1 } 9 198 Go.Proofs.Tryz.f198 I177 O177 (a0, a1, a2, a3, ()) = t177 a0 a1 a2 a3 := by kernel_rfl
noncomputable def T177 (x : DenS I177) : Option (DenS O177) := t177 x.1 x.2.1 x.2.2.1 x.2.2.2.1
noncomputable def C177 : Cfg := { P := Go.Proofs.Tryz.prog, sums := [], loops := [], globs := G1 }
noncomputable def S177 : Sum := sumOf I177 O177 T177 (DenS.dflt O177)
theorem S177_sound : Sound Go.Proofs.Tryz.prog G1 198 S177 :=
  fn_sound C177 9 198 Go.Proofs.Tryz.f198 mixedOk (by kernel_rfl) (by kernel_rfl) (by kernel_rfl) trivial trivial I177 O177 T177 _ (fun x => r177 x.1 x.2.1 x.2.2.1 x.2.2.2.1)
/-- math/bits.Add64 -/
abbrev I155 : Sig := sig3
abbrev O155 : Sig := sig2
noncomputable def S155 : Sum := addSum
theorem S155_sound : Sound Go.Proofs.Tryz.prog G1 185 S155 := add_sound Go.Proofs.Tryz.func185 (by kernel_rfl) (by kernel_rfl) (by kernel_rfl) (by kernel_rfl)
end Vx
