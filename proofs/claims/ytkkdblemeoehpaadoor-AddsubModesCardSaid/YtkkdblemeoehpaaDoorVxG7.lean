/- Part 7 of the proof. What is proved: symbolic execution of the functions, proved sound; what each function of the program computes, and that every run ends with it; what these functions compute, in plain numbers. Conditions: each theorem bears its own. -/
import Derived.Test.YtkkdblemeoehpaaDoorVxG6
import Derived.ProofKit
import Derived.LaidMore
import Derived.OpenShut
import Derived.Stop.Joined
import GoSem.ClaimJoined
set_option linter.all false
set_option exponentiation.threshold 1000000
namespace Vx
open Go Go.Proofs
/-- vernier/vernierlaw06.into -/
abbrev I79 : Sig := [(false, .int .i64), (false, .int .i64)]
abbrev O79 : Sig := [(false, .int .i64)]
noncomputable def t79 (a0 : Den (.int .i64)) (a1 : Den (.int .i64)) : Option (DenS O79) :=
  bif (a1 != (0 : Int)) then
  (bif (a1 != (0 : Int)) then
  (some ((Int.tmod (Go.IntKind.wrap Go.IntKind.i64 ((Int.tmod a0 a1) + a1)) a1), ()))
  else none)
  else none
theorem r79 (a0 : Den (.int .i64)) (a1 : Den (.int .i64)) :
    run { P := Go.Proofs.Tryd.prog, sums := [], loops := [], globs := G1 } 9 79 Go.Proofs.Tryd.f79 I79 O79 (a0, a1, ()) = t79 a0 a1 := by kernel_rfl
noncomputable def T79 (x : DenS I79) : Option (DenS O79) := t79 x.1 x.2.1
noncomputable def C79 : Cfg := { P := Go.Proofs.Tryd.prog, sums := [], loops := [], globs := G1 }
noncomputable def S79 : Sum := sumOf I79 O79 T79 (DenS.dflt O79)
theorem S79_sound : Sound Go.Proofs.Tryd.prog G1 79 S79 :=
  fn_sound C79 9 79 Go.Proofs.Tryd.f79 mixedOk (by kernel_rfl) (by kernel_rfl) (by kernel_rfl) trivial trivial I79 O79 T79 _ fun x => r79 x.1 x.2.1
/-- vernier/vernierlaw06.width -/
abbrev I80 : Sig := [(false, .int .i64)]
abbrev O80 : Sig := [(false, .int .i64)]
noncomputable def t80 (p67 : DenS I67 → Bool) (f67 : DenS I67 → DenS O67) (a0 : Den (.int .i64)) : Option (DenS O80) :=
  bif (p67 (a0, ())) then
  (some ((f67 (a0, ())).1, ()))
  else none
theorem r80 (p67 : DenS I67 → Bool) (f67 : DenS I67 → DenS O67) (a0 : Den (.int .i64)) :
    run { P := Go.Proofs.Tryd.prog, sums := [(67, ⟨I67, O67, p67, f67⟩)], loops := [], globs := G1 } 9 80 Go.Proofs.Tryd.f80 I80 O80 (a0, ()) = t80 p67 f67 a0 := by kernel_rfl
noncomputable def T80 (x : DenS I80) : Option (DenS O80) := t80 S67.pre S67.F x.1
noncomputable def C80 : Cfg := { P := Go.Proofs.Tryd.prog, sums := [(67, S67)], loops := [], globs := G1 }
noncomputable def S80 : Sum := sumOf I80 O80 T80 (DenS.dflt O80)
theorem S80_sound : Sound Go.Proofs.Tryd.prog G1 80 S80 :=
  fn_sound C80 9 80 Go.Proofs.Tryd.f80 mixedOk (by kernel_rfl) (by kernel_rfl) (by kernel_rfl) ⟨S67_sound, trivial⟩ trivial I80 O80 T80 _ fun x => r80 S67.pre S67.F x.1
/-- (vernier/vernierlaw06.Three).right -/
abbrev I29 : Sig := [(true, .pair (.int .i64) (.pair (.int .i64) (.pair (.int .u64) (.pair (.int .u64) (.pair (.int .u64) (.unit))))))]
abbrev O29 : Sig := [(true, .pair (.int .i64) (.pair (.int .i64) (.pair (.int .u64) (.pair (.int .u64) (.pair (.int .u64) (.unit))))))]
noncomputable def t29 (p79 : DenS I79 → Bool) (f79 : DenS I79 → DenS O79) (p80 : DenS I80 → Bool) (f80 : DenS I80 → DenS O80) (a0 : Den (.pair (.int .i64) (.pair (.int .i64) (.pair (.int .u64) (.pair (.int .u64) (.pair (.int .u64) (.unit))))))) : Option (DenS O29) :=
  bif (p79 (a0.1, ((4 : Int), ()))) then
  (bif (p79 (a0.2.1, ((6 : Int), ()))) then
  (bif (p80 (f79 (a0.1, ((4 : Int), ())))) then
  (some (((f79 (a0.1, ((4 : Int), ()))).1, ((f79 (a0.2.1, ((6 : Int), ()))).1, ((Vx.shrI Go.IntKind.u64 (Vx.shlI Go.IntKind.u64 a0.2.2.1 (Go.IntKind.wrap Go.IntKind.u64 (Go.IntKind.wrap Go.IntKind.i64 ((64 : Int) - (f80 (f79 (a0.1, ((4 : Int), ())))).1)))) (Go.IntKind.wrap Go.IntKind.u64 (Go.IntKind.wrap Go.IntKind.i64 ((64 : Int) - (f80 (f79 (a0.1, ((4 : Int), ())))).1)))), ((Vx.shrI Go.IntKind.u64 (Vx.shlI Go.IntKind.u64 a0.2.2.2.1 (Go.IntKind.wrap Go.IntKind.u64 (Go.IntKind.wrap Go.IntKind.i64 ((64 : Int) - (f80 (f79 (a0.1, ((4 : Int), ())))).1)))) (Go.IntKind.wrap Go.IntKind.u64 (Go.IntKind.wrap Go.IntKind.i64 ((64 : Int) - (f80 (f79 (a0.1, ((4 : Int), ())))).1)))), ((Vx.shrI Go.IntKind.u64 (Vx.shlI Go.IntKind.u64 a0.2.2.2.2.1 (Go.IntKind.wrap Go.IntKind.u64 (Go.IntKind.wrap Go.IntKind.i64 ((64 : Int) - (f80 (f79 (a0.1, ((4 : Int), ())))).1)))) (Go.IntKind.wrap Go.IntKind.u64 (Go.IntKind.wrap Go.IntKind.i64 ((64 : Int) - (f80 (f79 (a0.1, ((4 : Int), ())))).1)))), ()))))), ()))
  else none)
  else none)
  else none
theorem r29 (p79 : DenS I79 → Bool) (f79 : DenS I79 → DenS O79) (p80 : DenS I80 → Bool) (f80 : DenS I80 → DenS O80) (a0 : Den (.pair (.int .i64) (.pair (.int .i64) (.pair (.int .u64) (.pair (.int .u64) (.pair (.int .u64) (.unit))))))) :
    run { P := Go.Proofs.Tryd.prog, sums := [(79, ⟨I79, O79, p79, f79⟩), (80, ⟨I80, O80, p80, f80⟩)], loops := [], globs := G1 } 9 29 Go.Proofs.Tryd.f29 I29 O29 (a0, ()) = t29 p79 f79 p80 f80 a0 := by kernel_rfl
noncomputable def T29 (x : DenS I29) : Option (DenS O29) := t29 S79.pre S79.F S80.pre S80.F x.1
noncomputable def C29 : Cfg := { P := Go.Proofs.Tryd.prog, sums := [(79, S79), (80, S80)], loops := [], globs := G1 }
noncomputable def S29 : Sum := sumOf I29 O29 T29 (DenS.dflt O29)
theorem S29_sound : Sound Go.Proofs.Tryd.prog G1 29 S29 :=
  fn_sound C29 9 29 Go.Proofs.Tryd.f29 mixedOk (by kernel_rfl) (by kernel_rfl) (by kernel_rfl) ⟨S79_sound, ⟨S80_sound, trivial⟩⟩ trivial I29 O29 T29 _ fun x => r29 S79.pre S79.F S80.pre S80.F x.1
/-- vernier/vernierlaw06.nan -/
abbrev I34 : Sig := [(false, .int .i64), (false, .int .u64)]
abbrev O34 : Sig := [(false, .bool)]
noncomputable def t34 (p74 : DenS I74 → Bool) (f74 : DenS I74 → DenS O74) (a0 : Den (.int .i64)) (a1 : Den (.int .u64)) : Option (DenS O34) :=
  bif (p74 (a0, (a1, ()))) then
  (some ((f74 (a0, (a1, ()))).1.1, ()))
  else none
theorem r34 (p74 : DenS I74 → Bool) (f74 : DenS I74 → DenS O74) (a0 : Den (.int .i64)) (a1 : Den (.int .u64)) :
    run { P := Go.Proofs.Tryd.prog, sums := [(74, ⟨I74, O74, p74, f74⟩)], loops := [], globs := G1 } 9 34 Go.Proofs.Tryd.f34 I34 O34 (a0, a1, ()) = t34 p74 f74 a0 a1 := by kernel_rfl
noncomputable def T34 (x : DenS I34) : Option (DenS O34) := t34 S74.pre S74.F x.1 x.2.1
noncomputable def C34 : Cfg := { P := Go.Proofs.Tryd.prog, sums := [(74, S74)], loops := [], globs := G1 }
noncomputable def S34 : Sum := sumOf I34 O34 T34 (DenS.dflt O34)
theorem S34_sound : Sound Go.Proofs.Tryd.prog G1 34 S34 :=
  fn_sound C34 9 34 Go.Proofs.Tryd.f34 mixedOk (by kernel_rfl) (by kernel_rfl) (by kernel_rfl) ⟨S74_sound, trivial⟩ trivial I34 O34 T34 _ fun x => r34 S74.pre S74.F x.1 x.2.1
/-- vernier/vernierlaw06.finite -/
abbrev I36 : Sig := [(false, .int .i64), (false, .int .u64)]
abbrev O36 : Sig := [(false, .bool)]
noncomputable def t36 (p74 : DenS I74 → Bool) (f74 : DenS I74 → DenS O74) (a0 : Den (.int .i64)) (a1 : Den (.int .u64)) : Option (DenS O36) :=
  bif (p74 (a0, (a1, ()))) then
  (some (((!(f74 (a0, (a1, ()))).1.1) && (!(f74 (a0, (a1, ()))).1.2.2.1)), ()))
  else none
theorem r36 (p74 : DenS I74 → Bool) (f74 : DenS I74 → DenS O74) (a0 : Den (.int .i64)) (a1 : Den (.int .u64)) :
    run { P := Go.Proofs.Tryd.prog, sums := [(74, ⟨I74, O74, p74, f74⟩)], loops := [], globs := G1 } 9 36 Go.Proofs.Tryd.f36 I36 O36 (a0, a1, ()) = t36 p74 f74 a0 a1 := by kernel_rfl
noncomputable def T36 (x : DenS I36) : Option (DenS O36) := t36 S74.pre S74.F x.1 x.2.1
noncomputable def C36 : Cfg := { P := Go.Proofs.Tryd.prog, sums := [(74, S74)], loops := [], globs := G1 }
noncomputable def S36 : Sum := sumOf I36 O36 T36 (DenS.dflt O36)
theorem S36_sound : Sound Go.Proofs.Tryd.prog G1 36 S36 :=
  fn_sound C36 9 36 Go.Proofs.Tryd.f36 mixedOk (by kernel_rfl) (by kernel_rfl) (by kernel_rfl) ⟨S74_sound, trivial⟩ trivial I36 O36 T36 _ fun x => r36 S74.pre S74.F x.1 x.2.1
/-- vernier/vernierlaw06.rank -/
abbrev I35 : Sig := [(false, .int .i64), (false, .int .u64)]
abbrev O35 : Sig := [(false, .int .i64)]
noncomputable def t35 (p80 : DenS I80 → Bool) (f80 : DenS I80 → DenS O80) (a0 : Den (.int .i64)) (a1 : Den (.int .u64)) : Option (DenS O35) :=
  bif (p80 (a0, ())) then
  (bif (decide (a1 ≥ (Vx.shlI Go.IntKind.u64 (1 : Int) (Go.IntKind.wrap Go.IntKind.u64 (Go.IntKind.wrap Go.IntKind.i64 ((f80 (a0, ())).1 - (1 : Int))))))) then
  (some ((Go.IntKind.wrap Go.IntKind.i64 ((0 : Int) - (Go.IntKind.wrap Go.IntKind.i64 (Go.IntKind.wrap Go.IntKind.u64 (a1 - (Vx.shlI Go.IntKind.u64 (1 : Int) (Go.IntKind.wrap Go.IntKind.u64 (Go.IntKind.wrap Go.IntKind.i64 ((f80 (a0, ())).1 - (1 : Int)))))))))), ()))
  else some ((Go.IntKind.wrap Go.IntKind.i64 a1), ()))
  else none
theorem r35 (p80 : DenS I80 → Bool) (f80 : DenS I80 → DenS O80) (a0 : Den (.int .i64)) (a1 : Den (.int .u64)) :
    run { P := Go.Proofs.Tryd.prog, sums := [(80, ⟨I80, O80, p80, f80⟩)], loops := [], globs := G1 } 9 35 Go.Proofs.Tryd.f35 I35 O35 (a0, a1, ()) = t35 p80 f80 a0 a1 := by kernel_rfl
noncomputable def T35 (x : DenS I35) : Option (DenS O35) := t35 S80.pre S80.F x.1 x.2.1
noncomputable def C35 : Cfg := { P := Go.Proofs.Tryd.prog, sums := [(80, S80)], loops := [], globs := G1 }
noncomputable def S35 : Sum := sumOf I35 O35 T35 (DenS.dflt O35)
theorem S35_sound : Sound Go.Proofs.Tryd.prog G1 35 S35 :=
  fn_sound C35 9 35 Go.Proofs.Tryd.f35 mixedOk (by kernel_rfl) (by kernel_rfl) (by kernel_rfl) ⟨S80_sound, trivial⟩ trivial I35 O35 T35 _ fun x => r35 S80.pre S80.F x.1 x.2.1
/-- vernier/vernierlaw06.add -/
abbrev I30 : Sig := [(false, .int .i64), (false, .int .i64), (false, .int .u64), (false, .int .u64)]
abbrev O30 : Sig := [(false, .int .u64), (false, .int .i64), (false, .bool)]
noncomputable def t30 (p27 : DenS I27 → Bool) (f27 : DenS I27 → DenS O27) (a0 : Den (.int .i64)) (a1 : Den (.int .i64)) (a2 : Den (.int .u64)) (a3 : Den (.int .u64)) : Option (DenS O30) :=
  bif (p27 (a0, (a1, (a2, (a3, ()))))) then
  (some ((f27 (a0, (a1, (a2, (a3, ()))))).1, ((f27 (a0, (a1, (a2, (a3, ()))))).2.1, (((f27 (a0, (a1, (a2, (a3, ()))))).2.2.1 == (0 : Int)), ()))))
  else none
theorem r30 (p27 : DenS I27 → Bool) (f27 : DenS I27 → DenS O27) (a0 : Den (.int .i64)) (a1 : Den (.int .i64)) (a2 : Den (.int .u64)) (a3 : Den (.int .u64)) :
    run { P := Go.Proofs.Tryd.prog, sums := [(27, ⟨I27, O27, p27, f27⟩)], loops := [], globs := G1 } 9 30 Go.Proofs.Tryd.f30 I30 O30 (a0, a1, a2, a3, ()) = t30 p27 f27 a0 a1 a2 a3 := by kernel_rfl
noncomputable def T30 (x : DenS I30) : Option (DenS O30) := t30 S27.pre S27.F x.1 x.2.1 x.2.2.1 x.2.2.2.1
noncomputable def C30 : Cfg := { P := Go.Proofs.Tryd.prog, sums := [(27, S27)], loops := [], globs := G1 }
noncomputable def S30 : Sum := sumOf I30 O30 T30 (DenS.dflt O30)
theorem S30_sound : Sound Go.Proofs.Tryd.prog G1 30 S30 :=
  fn_sound C30 9 30 Go.Proofs.Tryd.f30 mixedOk (by kernel_rfl) (by kernel_rfl) (by kernel_rfl) ⟨S27_sound, trivial⟩ trivial I30 O30 T30 _ fun x => r30 S27.pre S27.F x.1 x.2.1 x.2.2.1 x.2.2.2.1
/-- vernier/vernierlaw06.AddsubModes -/
abbrev I8 : Sig := [(true, .pair (.int .i64) (.pair (.int .i64) (.pair (.int .u64) (.pair (.int .u64) (.pair (.int .u64) (.unit))))))]
abbrev O8 : Sig := [(false, .bool)]
abbrev P8_10 : Pat := ⟨175, [(1, .one (.ptr 0 0)), (6, .one (.v .i64)), (4, .one (.ptr 2 0)), (3, .one (.ptr 1 0)), (5, .one (.ptr 3 0))], [.raw [.v .i64, .v .i64, .v .u64, .v .u64, .v .u64], .arr (.int .u64), .arr (.int .i64), .arr (.int .i64)]⟩
abbrev A8_10 : List (Nat × Shape) := []
abbrev X8_10 : List (Nat × Pat) := [(0, ⟨175, [(4, .one (.ptr 2 0)), (3, .one (.ptr 1 0)), (5, .one (.ptr 3 0))], [.gone, .arr (.int .u64), .arr (.int .i64), .arr (.int .i64)]⟩)]
abbrev Q8_10 : Option Pat := (some ⟨175, [(2, .one (.bool))], []⟩)
abbrev P8_21 : Pat := ⟨175, [(12, .one (.v .i64)), (4, .one (.ptr 2 0)), (3, .one (.ptr 1 0)), (10, .one (.v .i64)), (11, .one (.v .i64)), (5, .one (.ptr 3 0))], [.gone, .arr (.int .u64), .arr (.int .i64), .arr (.int .i64)]⟩
abbrev A8_21 : List (Nat × Shape) := []
abbrev X8_21 : List (Nat × Pat) := [(2, ⟨175, [(4, .one (.ptr 2 0)), (3, .one (.ptr 1 0)), (10, .one (.v .i64)), (11, .one (.v .i64)), (5, .one (.ptr 3 0))], [.gone, .arr (.int .u64), .arr (.int .i64), .arr (.int .i64)]⟩)]
abbrev Q8_21 : Option Pat := (some ⟨175, [(2, .one (.bool))], []⟩)
noncomputable def h8_21 (p24 : DenS I24 → Bool) (f24 : DenS I24 → DenS O24) (p29 : DenS I29 → Bool) (f29 : DenS I29 → DenS O29) (p36 : DenS I36 → Bool) (f36 : DenS I36 → DenS O36) (p30 : DenS I30 → Bool) (f30 : DenS I30 → DenS O30) (p34 : DenS I34 → Bool) (f34 : DenS I34 → DenS O34) (p35 : DenS I35 → Bool) (f35 : DenS I35 → DenS O35) {R : Type} (L : Pat.D P8_21 → Option R) (e : OutT X8_21 Q8_21 → Option R) (x : Pat.D P8_21) : Option R :=
  bif (decide (x.1.1 < (6 : Int))) then
  (bif (((decide ((0 : Int) ≤ x.1.1)) && (decide (x.1.1 < ((6 : Nat) : Int)))) && (decide (x.1.1 < (x.2.2.2.2.1.length : Int)))) then
  (bif ((((decide ((0 : Int) ≤ x.1.1)) && (decide (x.1.1 < ((6 : Nat) : Int)))) && (decide (x.1.1 < (x.2.2.2.2.1.length : Int)))) || (!(bif (!(((x.2.2.2.2.1.getD (Int.toNat x.1.1) (0 : Int)) == (0 : Int)) == (x.1.2.2.2.1 == x.1.2.2.2.2.1))) then false else true))) then
  (bif ((((decide ((0 : Int) ≤ x.1.1)) && (decide (x.1.1 < ((6 : Nat) : Int)))) && (decide (x.1.1 < (x.2.2.2.2.1.length : Int)))) || (!((bif (!(((x.2.2.2.2.1.getD (Int.toNat x.1.1) (0 : Int)) == (0 : Int)) == (x.1.2.2.2.1 == x.1.2.2.2.2.1))) then false else true) && (bif ((x.2.2.2.2.1.getD (Int.toNat x.1.1) (0 : Int)) == (0 : Int)) then false else true)))) then
  (bif ((((decide ((0 : Int) ≤ x.1.1)) && (decide (x.1.1 < ((6 : Nat) : Int)))) && (decide (x.1.1 < (x.2.2.2.1.length : Int)))) || (!(bif ((!(((x.2.2.2.2.1.getD (Int.toNat x.1.1) (0 : Int)) == (0 : Int)) == (x.1.2.2.2.1 == x.1.2.2.2.2.1))) || (((x.2.2.2.2.1.getD (Int.toNat x.1.1) (0 : Int)) != (0 : Int)) && ((Vx.andI Go.IntKind.i64 (x.2.2.2.2.1.getD (Int.toNat x.1.1) (0 : Int)) (16 : Int)) == (0 : Int)))) then false else true))) then
  (bif ((((decide ((0 : Int) ≤ x.1.1)) && (decide (x.1.1 < ((6 : Nat) : Int)))) && (decide (x.1.1 < (x.2.2.2.1.length : Int)))) || (!((bif ((!(((x.2.2.2.2.1.getD (Int.toNat x.1.1) (0 : Int)) == (0 : Int)) == (x.1.2.2.2.1 == x.1.2.2.2.2.1))) || (((x.2.2.2.2.1.getD (Int.toNat x.1.1) (0 : Int)) != (0 : Int)) && ((Vx.andI Go.IntKind.i64 (x.2.2.2.2.1.getD (Int.toNat x.1.1) (0 : Int)) (16 : Int)) == (0 : Int)))) then false else true) && (bif ((x.2.2.2.1.getD (Int.toNat x.1.1) (0 : Int)) == x.1.2.2.2.1) then false else true)))) then
  (bif (((!(((x.2.2.2.2.1.getD (Int.toNat x.1.1) (0 : Int)) == (0 : Int)) == (x.1.2.2.2.1 == x.1.2.2.2.2.1))) || (((x.2.2.2.2.1.getD (Int.toNat x.1.1) (0 : Int)) != (0 : Int)) && ((Vx.andI Go.IntKind.i64 (x.2.2.2.2.1.getD (Int.toNat x.1.1) (0 : Int)) (16 : Int)) == (0 : Int)))) || (((((x.2.2.2.1.getD (Int.toNat x.1.1) (0 : Int)) != x.1.2.2.2.1) && ((x.2.2.2.1.getD (Int.toNat x.1.1) (0 : Int)) != x.1.2.2.2.2.1)) && (x.1.1 != (2 : Int))) && (x.1.1 != (5 : Int)))) then
  ((e (.inr ((false, ()), ()))))
  else bif (((decide ((0 : Int) ≤ x.1.1)) && (decide (x.1.1 < ((6 : Nat) : Int)))) && (decide (x.1.1 < (x.2.2.2.1.length : Int)))) then
  (bif ((((decide ((0 : Int) ≤ x.1.1)) && (decide (x.1.1 < ((6 : Nat) : Int)))) && (decide (x.1.1 < (x.2.2.2.1.length : Int)))) || (!(bif (decide ((x.2.2.2.1.getD (Int.toNat x.1.1) (0 : Int)) < x.1.2.2.2.1)) then false else true))) then
  (bif ((((decide ((0 : Int) ≤ x.1.1)) && (decide (x.1.1 < ((6 : Nat) : Int)))) && (decide (x.1.1 < (x.2.2.2.2.1.length : Int)))) || (!(bif ((decide ((x.2.2.2.1.getD (Int.toNat x.1.1) (0 : Int)) < x.1.2.2.2.1)) || (decide ((x.2.2.2.1.getD (Int.toNat x.1.1) (0 : Int)) > x.1.2.2.2.2.1))) then false else true))) then
  (bif (((decide ((x.2.2.2.1.getD (Int.toNat x.1.1) (0 : Int)) < x.1.2.2.2.1)) || (decide ((x.2.2.2.1.getD (Int.toNat x.1.1) (0 : Int)) > x.1.2.2.2.2.1))) || ((Vx.andNotI Go.IntKind.i64 (x.2.2.2.2.1.getD (Int.toNat x.1.1) (0 : Int)) (20 : Int)) != (0 : Int))) then
  ((e (.inr ((false, ()), ()))))
  else (L (((Go.IntKind.wrap Go.IntKind.i64 (x.1.1 + (1 : Int))), ((), ((), (x.1.2.2.2.1, (x.1.2.2.2.2.1, ((), ())))))), ((), x.2.2))))
  else none)
  else none)
  else none)
  else none)
  else none)
  else none)
  else none)
  else none)
  else (e (.inl (((), ((), (x.1.2.2.2.1, (x.1.2.2.2.2.1, ((), ()))))), ((), x.2.2))))
theorem s8_21 (p24 : DenS I24 → Bool) (f24 : DenS I24 → DenS O24) (p29 : DenS I29 → Bool) (f29 : DenS I29 → DenS O29) (p36 : DenS I36 → Bool) (f36 : DenS I36 → DenS O36) (p30 : DenS I30 → Bool) (f30 : DenS I30 → DenS O30) (p34 : DenS I34 → Bool) (f34 : DenS I34 → DenS O34) (p35 : DenS I35 → Bool) (f35 : DenS I35 → DenS O35) (w8_10 : Pat.D P8_10 → Option (OutT X8_10 Q8_10)) (w8_21 : Pat.D P8_21 → Option (OutT X8_21 Q8_21)) (d : Nat) (R : Type) (L : Pat.D P8_21 → Option R) (e : OutT X8_21 Q8_21 → Option R) (x : Pat.D P8_21) :
    lStep { P := Go.Proofs.Tryd.prog, sums := [(24, ⟨I24, O24, p24, f24⟩), (29, ⟨I29, O29, p29, f29⟩), (36, ⟨I36, O36, p36, f36⟩), (30, ⟨I30, O30, p30, f30⟩), (34, ⟨I34, O34, p34, f34⟩), (35, ⟨I35, O35, p35, f35⟩)], loops := [(8, 10, LoopSpec.of P8_10 A8_10 X8_10 Q8_10 w8_10), (8, 21, LoopSpec.of P8_21 A8_21 X8_21 Q8_21 w8_21)], globs := G1 } (d + 2) 8 (bodyOf Go.Proofs.Tryd.f8 21) P8_21 A8_21 X8_21 Q8_21 (R := R) L e x = h8_21 p24 f24 p29 f29 p36 f36 p30 f30 p34 f34 p35 f35 L e x := by kernel_rfl
theorem m8_21 (p24 : DenS I24 → Bool) (f24 : DenS I24 → DenS O24) (p29 : DenS I29 → Bool) (f29 : DenS I29 → DenS O29) (p36 : DenS I36 → Bool) (f36 : DenS I36 → DenS O36) (p30 : DenS I30 → Bool) (f30 : DenS I30 → DenS O30) (p34 : DenS I34 → Bool) (f34 : DenS I34 → DenS O34) (p35 : DenS I35 → Bool) (f35 : DenS I35 → DenS O35) : Par fun L e x => h8_21 p24 f24 p29 f29 p36 f36 p30 f30 p34 f34 p35 f35 L e x := by
  intro A B rel L L' e e' h0 hL he x
  unfold h8_21
  repeat' (first | exact h0 | exact hL _ | exact he _ | apply rel_cond | (apply rel_obind h0; intro _) | (apply rel_obind2 <;> intro _))
noncomputable def h8_10 (p24 : DenS I24 → Bool) (f24 : DenS I24 → DenS O24) (p29 : DenS I29 → Bool) (f29 : DenS I29 → DenS O29) (p36 : DenS I36 → Bool) (f36 : DenS I36 → DenS O36) (p30 : DenS I30 → Bool) (f30 : DenS I30 → DenS O30) (p34 : DenS I34 → Bool) (f34 : DenS I34 → DenS O34) (p35 : DenS I35 → Bool) (f35 : DenS I35 → DenS O35) {R : Type} (L : Pat.D P8_10 → Option R) (e : OutT X8_10 Q8_10 → Option R) (x : Pat.D P8_10) : Option R :=
  bif (decide (x.1.2.1 < (6 : Int))) then
  (bif (p30 (x.2.1.1, (x.1.2.1, (x.2.1.2.2.1, (x.2.1.2.2.2.1, ()))))) then
  (bif ((p34 (x.2.1.1, ((f30 (x.2.1.1, (x.1.2.1, (x.2.1.2.2.1, (x.2.1.2.2.2.1, ()))))).1, ()))) || (!(bif (!(f30 (x.2.1.1, (x.1.2.1, (x.2.1.2.2.1, (x.2.1.2.2.2.1, ()))))).2.2.1) then false else true))) then
  (bif ((!(f30 (x.2.1.1, (x.1.2.1, (x.2.1.2.2.1, (x.2.1.2.2.2.1, ()))))).2.2.1) || (f34 (x.2.1.1, ((f30 (x.2.1.1, (x.1.2.1, (x.2.1.2.2.1, (x.2.1.2.2.2.1, ()))))).1, ()))).1) then
  ((e (.inr ((false, ()), ()))))
  else bif (((decide ((0 : Int) ≤ x.1.2.1)) && (decide (x.1.2.1 < ((6 : Nat) : Int)))) && (decide (x.1.2.1 < (x.2.2.1.length : Int)))) then
  (bif (p35 (x.2.1.1, ((f30 (x.2.1.1, (x.1.2.1, (x.2.1.2.2.1, (x.2.1.2.2.2.1, ()))))).1, ()))) then
  (bif (((decide ((0 : Int) ≤ x.1.2.1)) && (decide (x.1.2.1 < ((6 : Nat) : Int)))) && (decide (x.1.2.1 < (x.2.2.2.1.length : Int)))) then
  (bif (((decide ((0 : Int) ≤ x.1.2.1)) && (decide (x.1.2.1 < ((6 : Nat) : Int)))) && (decide (x.1.2.1 < (x.2.2.2.2.1.length : Int)))) then
  ((L (((), ((Go.IntKind.wrap Go.IntKind.i64 (x.1.2.1 + (1 : Int))), ((), ((), ((), ()))))), (x.2.1, ((x.2.2.1.set (Int.toNat x.1.2.1) (f30 (x.2.1.1, (x.1.2.1, (x.2.1.2.2.1, (x.2.1.2.2.2.1, ()))))).1), ((x.2.2.2.1.set (Int.toNat x.1.2.1) (f35 (x.2.1.1, ((f30 (x.2.1.1, (x.1.2.1, (x.2.1.2.2.1, (x.2.1.2.2.2.1, ()))))).1, ()))).1), ((x.2.2.2.2.1.set (Int.toNat x.1.2.1) (f30 (x.2.1.1, (x.1.2.1, (x.2.1.2.2.1, (x.2.1.2.2.2.1, ()))))).2.1), ())))))))
  else none)
  else none)
  else none)
  else none)
  else none)
  else none)
  else (e (.inl (((), ((), ((), ()))), ((), x.2.2))))
theorem s8_10 (p24 : DenS I24 → Bool) (f24 : DenS I24 → DenS O24) (p29 : DenS I29 → Bool) (f29 : DenS I29 → DenS O29) (p36 : DenS I36 → Bool) (f36 : DenS I36 → DenS O36) (p30 : DenS I30 → Bool) (f30 : DenS I30 → DenS O30) (p34 : DenS I34 → Bool) (f34 : DenS I34 → DenS O34) (p35 : DenS I35 → Bool) (f35 : DenS I35 → DenS O35) (w8_10 : Pat.D P8_10 → Option (OutT X8_10 Q8_10)) (w8_21 : Pat.D P8_21 → Option (OutT X8_21 Q8_21)) (d : Nat) (R : Type) (L : Pat.D P8_10 → Option R) (e : OutT X8_10 Q8_10 → Option R) (x : Pat.D P8_10) :
    lStep { P := Go.Proofs.Tryd.prog, sums := [(24, ⟨I24, O24, p24, f24⟩), (29, ⟨I29, O29, p29, f29⟩), (36, ⟨I36, O36, p36, f36⟩), (30, ⟨I30, O30, p30, f30⟩), (34, ⟨I34, O34, p34, f34⟩), (35, ⟨I35, O35, p35, f35⟩)], loops := [(8, 10, LoopSpec.of P8_10 A8_10 X8_10 Q8_10 w8_10), (8, 21, LoopSpec.of P8_21 A8_21 X8_21 Q8_21 w8_21)], globs := G1 } (d + 2) 8 (bodyOf Go.Proofs.Tryd.f8 10) P8_10 A8_10 X8_10 Q8_10 (R := R) L e x = h8_10 p24 f24 p29 f29 p36 f36 p30 f30 p34 f34 p35 f35 L e x := by kernel_rfl
theorem m8_10 (p24 : DenS I24 → Bool) (f24 : DenS I24 → DenS O24) (p29 : DenS I29 → Bool) (f29 : DenS I29 → DenS O29) (p36 : DenS I36 → Bool) (f36 : DenS I36 → DenS O36) (p30 : DenS I30 → Bool) (f30 : DenS I30 → DenS O30) (p34 : DenS I34 → Bool) (f34 : DenS I34 → DenS O34) (p35 : DenS I35 → Bool) (f35 : DenS I35 → DenS O35) : Par fun L e x => h8_10 p24 f24 p29 f29 p36 f36 p30 f30 p34 f34 p35 f35 L e x := by
  intro A B rel L L' e e' h0 hL he x
  unfold h8_10
  repeat' (first | exact h0 | exact hL _ | exact he _ | apply rel_cond | (apply rel_obind h0; intro _) | (apply rel_obind2 <;> intro _))
noncomputable def t8 (p24 : DenS I24 → Bool) (f24 : DenS I24 → DenS O24) (p29 : DenS I29 → Bool) (f29 : DenS I29 → DenS O29) (p36 : DenS I36 → Bool) (f36 : DenS I36 → DenS O36) (p30 : DenS I30 → Bool) (f30 : DenS I30 → DenS O30) (p34 : DenS I34 → Bool) (f34 : DenS I34 → DenS O34) (p35 : DenS I35 → Bool) (f35 : DenS I35 → DenS O35) (w8_10 : Pat.D P8_10 → Option (OutT X8_10 Q8_10)) (w8_21 : Pat.D P8_21 → Option (OutT X8_21 Q8_21)) (a0 : Den (.pair (.int .i64) (.pair (.int .i64) (.pair (.int .u64) (.pair (.int .u64) (.pair (.int .u64) (.unit))))))) : Option (DenS O8) :=
  bif (p24 ()) then
  (bif (!(f24 ()).1) then
  (some (false, ()))
  else bif (p29 ((a0.1, a0.2), ())) then
  (bif (p36 ((f29 ((a0.1, a0.2), ())).1.1, ((f29 ((a0.1, a0.2), ())).1.2.2.1, ()))) then
  (bif ((p36 ((f29 ((a0.1, a0.2), ())).1.1, ((f29 ((a0.1, a0.2), ())).1.2.2.2.1, ()))) || (!(bif (!(f36 ((f29 ((a0.1, a0.2), ())).1.1, ((f29 ((a0.1, a0.2), ())).1.2.2.1, ()))).1) then false else true))) then
  (bif ((!(f36 ((f29 ((a0.1, a0.2), ())).1.1, ((f29 ((a0.1, a0.2), ())).1.2.2.1, ()))).1) || (!(f36 ((f29 ((a0.1, a0.2), ())).1.1, ((f29 ((a0.1, a0.2), ())).1.2.2.2.1, ()))).1)) then
  (some (true, ()))
  else Vx.obind (w8_10 (((), ((0 : Int), ((), ((), ((), ()))))), ((f29 ((a0.1, a0.2), ())).1, (((0 : Int) :: ((0 : Int) :: ((0 : Int) :: ((0 : Int) :: ((0 : Int) :: ((0 : Int) :: [])))))), (((0 : Int) :: ((0 : Int) :: ((0 : Int) :: ((0 : Int) :: ((0 : Int) :: ((0 : Int) :: [])))))), (((0 : Int) :: ((0 : Int) :: ((0 : Int) :: ((0 : Int) :: ((0 : Int) :: ((0 : Int) :: [])))))), ())))))) fun y6 =>
  Vx.obind2 y6 (fun y7 =>
  bif (decide ((4 : Int) < (y7.2.2.2.1.length : Int))) then
  (bif (decide ((3 : Int) < (y7.2.2.2.1.length : Int))) then
  (Vx.obind (w8_21 (((0 : Int), ((), ((), ((y7.2.2.2.1.getD (Int.toNat (4 : Int)) (0 : Int)), ((y7.2.2.2.1.getD (Int.toNat (3 : Int)) (0 : Int)), ((), ())))))), ((), y7.2.2))) fun y10 =>
  Vx.obind2 y10 (fun y11 =>
  bif (y11.1.2.2.1 == y11.1.2.2.2.1) then
  (some (true, ()))
  else bif ((Go.IntKind.wrap Go.IntKind.i64 (y11.1.2.2.2.1 - y11.1.2.2.1)) != (1 : Int)) then
  (some (false, ()))
  else bif (decide ((2 : Int) < (y11.2.2.2.1.length : Int))) then
  (bif (decide ((5 : Int) < (y11.2.2.1.length : Int))) then
  (bif (((decide (y11.1.2.2.1 ≥ (0 : Int))) && ((y11.2.2.2.1.getD (Int.toNat (2 : Int)) (0 : Int)) != y11.1.2.2.1)) || ((decide (y11.1.2.2.2.1 ≤ (0 : Int))) && ((y11.2.2.2.1.getD (Int.toNat (2 : Int)) (0 : Int)) != y11.1.2.2.2.1))) then
  (some (false, ()))
  else bif ((decide ((5 : Int) < (y11.2.2.2.2.1.length : Int))) || (!(bif ((Int.tmod (y11.2.2.1.getD (Int.toNat (5 : Int)) (0 : Int)) (2 : Int)) == (1 : Int)) then false else true))) then
  (some ((((Int.tmod (y11.2.2.1.getD (Int.toNat (5 : Int)) (0 : Int)) (2 : Int)) == (1 : Int)) || ((Vx.andI Go.IntKind.i64 (y11.2.2.2.2.1.getD (Int.toNat (5 : Int)) (0 : Int)) (4 : Int)) != (0 : Int))), ()))
  else none)
  else none)
  else none) (fun z11 =>
  some z11.1))
  else none)
  else none) (fun z7 =>
  some z7.1))
  else none)
  else none)
  else none)
  else none
theorem r8 (p24 : DenS I24 → Bool) (f24 : DenS I24 → DenS O24) (p29 : DenS I29 → Bool) (f29 : DenS I29 → DenS O29) (p36 : DenS I36 → Bool) (f36 : DenS I36 → DenS O36) (p30 : DenS I30 → Bool) (f30 : DenS I30 → DenS O30) (p34 : DenS I34 → Bool) (f34 : DenS I34 → DenS O34) (p35 : DenS I35 → Bool) (f35 : DenS I35 → DenS O35) (w8_10 : Pat.D P8_10 → Option (OutT X8_10 Q8_10)) (w8_21 : Pat.D P8_21 → Option (OutT X8_21 Q8_21)) (a0 : Den (.pair (.int .i64) (.pair (.int .i64) (.pair (.int .u64) (.pair (.int .u64) (.pair (.int .u64) (.unit))))))) :
    run { P := Go.Proofs.Tryd.prog, sums := [(24, ⟨I24, O24, p24, f24⟩), (29, ⟨I29, O29, p29, f29⟩), (36, ⟨I36, O36, p36, f36⟩), (30, ⟨I30, O30, p30, f30⟩), (34, ⟨I34, O34, p34, f34⟩), (35, ⟨I35, O35, p35, f35⟩)], loops := [(8, 10, LoopSpec.of P8_10 A8_10 X8_10 Q8_10 w8_10), (8, 21, LoopSpec.of P8_21 A8_21 X8_21 Q8_21 w8_21)], globs := G1 } 9 8 Go.Proofs.Tryd.f8 I8 O8 (a0, ()) = t8 p24 f24 p29 f29 p36 f36 p30 f30 p34 f34 p35 f35 w8_10 w8_21 a0 := by kernel_rfl
noncomputable def W8_21 : P8_21.D → Option (OutT X8_21 Q8_21) := lfix fun L => h8_21 S24.pre S24.F S29.pre S29.F S36.pre S36.F S30.pre S30.F S34.pre S34.F S35.pre S35.F L some
noncomputable def W8_10 : P8_10.D → Option (OutT X8_10 Q8_10) := lfix fun L => h8_10 S24.pre S24.F S29.pre S29.F S36.pre S36.F S30.pre S30.F S34.pre S34.F S35.pre S35.F L some
noncomputable def T8 (x : DenS I8) : Option (DenS O8) := t8 S24.pre S24.F S29.pre S29.F S36.pre S36.F S30.pre S30.F S34.pre S34.F S35.pre S35.F W8_10 W8_21 x.1
noncomputable def C8 : Cfg := { P := Go.Proofs.Tryd.prog, sums := [(24, S24), (29, S29), (36, S36), (30, S30), (34, S34), (35, S35)], loops := [(8, 10, LoopSpec.of P8_10 A8_10 X8_10 Q8_10 W8_10), (8, 21, LoopSpec.of P8_21 A8_21 X8_21 Q8_21 W8_21)], globs := G1 }
noncomputable def S8 : Sum := sumOf I8 O8 T8 (DenS.dflt O8)
theorem S8_sound : Sound Go.Proofs.Tryd.prog G1 8 S8 :=
  fn_sound C8 9 8 Go.Proofs.Tryd.f8 mixedOk (by kernel_rfl) (by kernel_rfl) (by kernel_rfl) ⟨S24_sound, ⟨S29_sound, ⟨S36_sound, ⟨S30_sound, ⟨S34_sound, ⟨S35_sound, trivial⟩⟩⟩⟩⟩⟩ ⟨rfl, fun d => loopOk_of (fun L e x => h8_10 S24.pre S24.F S29.pre S29.F S36.pre S36.F S30.pre S30.F S34.pre S34.F S35.pre S35.F L e x) (m8_10 S24.pre S24.F S29.pre S29.F S36.pre S36.F S30.pre S30.F S34.pre S34.F S35.pre S35.F) (fun R L e x => s8_10 S24.pre S24.F S29.pre S29.F S36.pre S36.F S30.pre S30.F S34.pre S34.F S35.pre S35.F W8_10 W8_21 d R L e x), ⟨rfl, fun d => loopOk_of (fun L e x => h8_21 S24.pre S24.F S29.pre S29.F S36.pre S36.F S30.pre S30.F S34.pre S34.F S35.pre S35.F L e x) (m8_21 S24.pre S24.F S29.pre S29.F S36.pre S36.F S30.pre S30.F S34.pre S34.F S35.pre S35.F) (fun R L e x => s8_21 S24.pre S24.F S29.pre S29.F S36.pre S36.F S30.pre S30.F S34.pre S34.F S35.pre S35.F W8_10 W8_21 d R L e x), trivial⟩⟩ I8 O8 T8 _ fun x => r8 S24.pre S24.F S29.pre S29.F S36.pre S36.F S30.pre S30.F S34.pre S34.F S35.pre S35.F W8_10 W8_21 x.1
end Vx
namespace Vx
open Go
theorem pre79 {x : DenS I79} {y : DenS O79} (h : T79 x = some y) : S79.pre x = true := sum_pre (T := T79) h
theorem fun79 {x : DenS I79} {y : DenS O79} (h : T79 x = some y) : S79.F x = y := sum_F (T := T79) h
theorem pre80 {x : DenS I80} {y : DenS O80} (h : T80 x = some y) : S80.pre x = true := sum_pre (T := T80) h
theorem fun80 {x : DenS I80} {y : DenS O80} (h : T80 x = some y) : S80.F x = y := sum_F (T := T80) h
theorem pre29 {x : DenS I29} {y : DenS O29} (h : T29 x = some y) : S29.pre x = true := sum_pre (T := T29) h
theorem fun29 {x : DenS I29} {y : DenS O29} (h : T29 x = some y) : S29.F x = y := sum_F (T := T29) h
theorem pre34 {x : DenS I34} {y : DenS O34} (h : T34 x = some y) : S34.pre x = true := sum_pre (T := T34) h
theorem fun34 {x : DenS I34} {y : DenS O34} (h : T34 x = some y) : S34.F x = y := sum_F (T := T34) h
theorem pre36 {x : DenS I36} {y : DenS O36} (h : T36 x = some y) : S36.pre x = true := sum_pre (T := T36) h
theorem fun36 {x : DenS I36} {y : DenS O36} (h : T36 x = some y) : S36.F x = y := sum_F (T := T36) h
theorem pre35 {x : DenS I35} {y : DenS O35} (h : T35 x = some y) : S35.pre x = true := sum_pre (T := T35) h
theorem fun35 {x : DenS I35} {y : DenS O35} (h : T35 x = some y) : S35.F x = y := sum_F (T := T35) h
theorem pre30 {x : DenS I30} {y : DenS O30} (h : T30 x = some y) : S30.pre x = true := sum_pre (T := T30) h
theorem fun30 {x : DenS I30} {y : DenS O30} (h : T30 x = some y) : S30.F x = y := sum_F (T := T30) h
end Vx
namespace VL
open Go Vx
theorem T79_in (n : Int) {w : Nat} (hw : 0 < w ∧ w < 100) : ∃ k : Nat, k < w ∧ T79 (n, (w : Int), ()) = some ((k : Int), ()) := by
  have hne : ((w : Int) != 0) = true := bne0_t _ (by omega)
  have ht : ∃ r : Int, Int.tmod n (w : Int) = r ∧ -(w : Int) < r ∧ r < (w : Int) := by
    rcases n with k | k
    · have e : Int.tmod (Int.ofNat k) (w : Int) = ((k % w : Nat) : Int) := rfl
      have := Nat.mod_lt k hw.1
      exact ⟨_, e, by omega, by omega⟩
    · have e : Int.tmod (Int.negSucc k) (w : Int) = -(((k + 1) % w : Nat) : Int) := rfl
      have := Nat.mod_lt (k + 1) hw.1
      exact ⟨_, e, by omega, by omega⟩
  obtain ⟨r, h1, h2, h3⟩ := ht
  obtain ⟨u, hu⟩ := Int.eq_ofNat_of_zero_le (show 0 ≤ r + (w : Int) by omega)
  refine ⟨u % w, Nat.mod_lt _ hw.1, ?_⟩
  show t79 n (w : Int) = _
  unfold t79
  rw [hne, cond_true, cond_true, h1, wrapI (by omega), hu]
  rfl
theorem T80_ok {f : Int} (hf : Fm f) : T80 (f, ()) = some ((fW f : Int), ()) := by
  show t80 S67.pre S67.F f = _
  unfold t80
  have p0 := T67_ok hf
  simp only [pre67 p0, fun67 p0, cond_true]
theorem cut_width {A W : Nat} (hW : W ≤ 64) : A * 2 ^ (64 - W) % 2 ^ 64 / 2 ^ (64 - W) = A % 2 ^ W := by
  have e : 2 ^ 64 = 2 ^ W * 2 ^ (64 - W) := by rw [← Nat.pow_add]; congr 1; omega
  rw [e, Nat.mul_mod_mul_right, Nat.mul_div_cancel _ (Nat.two_pow_pos _)]
theorem chk_mod {f : Int} (hf : Fm f) (A : Nat) : chk f (A % 2 ^ fW f) = 0 := chk_ok hf (Nat.mod_lt _ (Nat.two_pow_pos _))
theorem T29_ok (F M : Int) (A B C : Nat) : ∃ (f m : Int) (a b c : Nat), Fm f ∧ (0 ≤ m ∧ m ≤ 5) ∧ chk f a = 0 ∧ chk f b = 0 ∧ chk f c = 0 ∧
    T29 ((F, M, (A : Int), (B : Int), (C : Int), ()), ()) = some ((f, m, (a : Int), (b : Int), (c : Int), ()), ()) := by
  obtain ⟨f, hf, p1⟩ := T79_in F (w := 4) (by decide)
  obtain ⟨m, hm, p2⟩ := T79_in M (w := 6) (by decide)
  have hfm : Fm (f : Int) := ⟨by omega, by omega⟩
  have p3 := T80_ok hfm
  have hW := fW_le hfm
  refine ⟨f, m, A % 2 ^ fW f, B % 2 ^ fW f, C % 2 ^ fW f, hfm, ⟨by omega, by omega⟩, chk_mod hfm _, chk_mod hfm _, chk_mod hfm _, ?_⟩
  show t29 S79.pre S79.F S80.pre S80.F (F, M, (A : Int), (B : Int), (C : Int), ()) = _
  unfold t29
  have e1 : IntKind.wrap .u64 (IntKind.wrap .i64 (64 - (fW f : Int))) = ((64 - fW f : Nat) : Int) := by
    rw [wrapI (by omega), wrapU (by omega)]; omega
  have e2 : ∀ x : Nat, shrI .u64 (shlI .u64 (x : Int) ((64 - fW f : Nat) : Int)) ((64 - fW f : Nat) : Int) = ((x % 2 ^ fW f : Nat) : Int) := fun x => by
    rw [shlN _ _ (by omega), shrN _ _ (by omega), cut_width hW]
  rw [show ((4 : Nat) : Int) = 4 from rfl] at p1
  rw [show ((6 : Nat) : Int) = 6 from rfl] at p2
  simp only [pre79 p1, fun79 p1, pre79 p2, fun79 p2, pre80 p3, fun80 p3, cond_true, e1, e2]
theorem T34_eq {f : Int} (hf : Fm f) {a : Nat} (h : chk f a = 0) : T34 (f, (a : Int), ()) = some (nan f a, ()) := by
  show t34 S74.pre S74.F f a = _
  unfold t34
  have p0 := T74_eq hf h
  by_cases hz : eF f a = fullF f
  · rw [if_pos hz] at p0
    simp only [pre74 p0, fun74 p0, cond_true]
    rw [(full_vals hz).1]; rfl
  · rw [if_neg hz] at p0
    simp only [pre74 p0, fun74 p0, cond_true]
    rw [(part_vals hz).1]
theorem T36_eq {f : Int} (hf : Fm f) {a : Nat} (h : chk f a = 0) : T36 (f, (a : Int), ()) = some (decide (eF f a ≠ fullF f), ()) := by
  show t36 S74.pre S74.F f a = _
  unfold t36
  have p0 := T74_eq hf h
  by_cases hz : eF f a = fullF f
  · rw [if_pos hz] at p0
    simp only [pre74 p0, fun74 p0, cond_true]
    rw [decide_eq_false (fun hh => hh hz), bne]
    cases mF f a == 0 <;> rfl
  · rw [if_neg hz] at p0
    simp only [pre74 p0, fun74 p0, cond_true]
    rw [decide_eq_true hz]; rfl
theorem T35_eq {f : Int} (hf : Fm f) {a : Nat} (h : chk f a = 0) : T35 (f, (a : Int), ()) = some (place f a, ()) := by
  show t35 S80.pre S80.F f a = _
  unfold t35
  have p0 := T80_ok hf
  have h2 := fP_lt hf
  have h3 := fW_le hf
  have hal := abs_lt' (f := f) a
  have hpat := pat_mk h
  have hW1 : 2 ^ (fW f - 1) ≤ 2 ^ 63 := Nat.pow_le_pow_right (by decide) (by omega)
  have e1 : IntKind.wrap .u64 (IntKind.wrap .i64 ((fW f : Int) - 1)) = ((fW f - 1 : Nat) : Int) := by rw [wsub1 _ (by omega), wu_id _ (by omega)]
  have e2 : shlI .u64 1 ((fW f - 1 : Nat) : Int) = ((2 ^ (fW f - 1) : Nat) : Int) := shlI_one (by omega)
  simp only [pre80 p0, fun80 p0, cond_true, e1, e2]
  unfold place
  unfold mkF at hpat
  cases hs : sF f a with
  | false =>
    rw [hs, cond_false, Nat.add_zero] at hpat
    rw [ige_f _ _ (by omega), cond_false, cond_false, wrapI (by omega), ← hpat]
  | true =>
    rw [hs, cond_true] at hpat
    rw [ige_t _ _ (by omega), cond_true, cond_true, wu_sub _ _ (by have := pat_lt h; omega), show a - 2 ^ (fW f - 1) = absF f a by omega, wrapI (n := (absF f a : Int)) (by omega), wrapI (by omega)]
    rw [Int.zero_sub]
/-- a sum's bits and flags, in naturals -/
def addN (f m : Int) (a b : Nat) : Nat × Nat :=
  bif snan f a || snan f b then (nanF f, 1)
  else bif nan f a || nan f b then (nanF f, 0)
  else bif (isInf f a && isInf f b) && !(sF f a == sF f b) then (nanF f, 1)
  else bif isInf f a then (a, 0)
  else bif isInf f b then (b, 0)
  else sumBits f m (sF f a) (mant f a) (xpn f a) (sF f b) (mant f b) (xpn f b)
theorem addR_N (f m : Int) (a b : Nat) : addR f m a b = (((addN f m a b).1 : Int), ((addN f m a b).2 : Int), 0, ()) := by
  unfold addR addN
  cases snan f a || snan f b <;> cases nan f a || nan f b <;> cases (isInf f a && isInf f b) && !(sF f a == sF f b) <;> cases isInf f a <;> cases isInf f b <;> rfl
theorem T30_ok {f m : Int} (hf : Fm f) (hm : 0 ≤ m ∧ m ≤ 5) {a b : Nat} (ha : chk f a = 0) (hb : chk f b = 0) :
    T30 (f, m, (a : Int), (b : Int), ()) = some (((addN f m a b).1 : Int), ((addN f m a b).2 : Int), true, ()) := by
  show t30 S27.pre S27.F f m a b = _
  unfold t30
  have p0 := T27_eq f m (pat_lt ha) (pat_lt hb)
  unfold addA at p0
  rw [if_pos hf, if_pos hm, if_pos ⟨ha, hb⟩, addR_N] at p0
  simp only [pre27 p0, fun27 p0, cond_true]
  rfl
end VL
namespace VL
open Go Vx
/-- a number as whole least steps -/
def vI (f : Int) (neg : Bool) (X : Nat) (e : Int) : Int := bif neg then -((X * 2 ^ (e - qm f).toNat : Nat) : Int) else ((X * 2 ^ (e - qm f).toNat : Nat) : Int)
theorem rnd_qm {f : Int} (hf : Fm f) (m : Int) (neg : Bool) {N : Nat} (hN : N ≠ 0) {e : Int} (he : qm f ≤ e) :
    rndN f m neg N e false = (mkF f neg (rndM f m neg (N * 2 ^ (e - qm f).toNat) (qm f)).1, (rndM f m neg (N * 2 ^ (e - qm f).toNat) (qm f)).2) := by
  have h := rnd_scale (f := f) (m := m) (neg := neg) hf hN (e - qm f).toNat (qm f)
  rw [show qm f + ((e - qm f).toNat : Int) = e by omega] at h
  rw [← h, rnd_M hf]
theorem sum_form {f : Int} (hf : Fm f) (nx : Bool) (X : Nat) (ex : Int) (ny : Bool) (Y : Nat) (ey : Int) (hx : qm f ≤ ex) (hy : qm f ≤ ey) :
    (vI f nx X ex + vI f ny Y ey = 0 → ∀ m, ∃ s, sumBits f m nx X ex ny Y ey = (sgnF f s, 0)) ∧
    (vI f nx X ex + vI f ny Y ey ≠ 0 → ∀ m, sumBits f m nx X ex ny Y ey =
      (mkF f (decide (vI f nx X ex + vI f ny Y ey < 0)) (rndM f m (decide (vI f nx X ex + vI f ny Y ey < 0)) (vI f nx X ex + vI f ny Y ey).natAbs (qm f)).1,
       (rndM f m (decide (vI f nx X ex + vI f ny Y ey < 0)) (vI f nx X ex + vI f ny Y ey).natAbs (qm f)).2)) := by
  obtain ⟨e, he⟩ : ∃ e, (if ex ≤ ey then ex else ey) = e := ⟨_, rfl⟩
  have he2 : e ≤ ex ∧ e ≤ ey ∧ qm f ≤ e := by rw [← he]; split <;> omega
  obtain ⟨a, ha⟩ : ∃ a, X * 2 ^ (ex - e).toNat = a := ⟨_, rfl⟩
  obtain ⟨b, hb⟩ : ∃ b, Y * 2 ^ (ey - e).toNat = b := ⟨_, rfl⟩
  have hS : ∀ m, sumBits f m nx X ex ny Y ey = if nx = ny then (if a + b = 0 then (sgnF f nx, 0) else rndN f m nx (a + b) e false)
      else if a = b then (sgnF f (m == 4), 0) else if b < a then rndN f m nx (a - b) e false else rndN f m ny (b - a) e false := fun m => by
    unfold sumBits
    simp only [he, ha, hb]
  have hp := Nat.two_pow_pos (e - qm f).toNat
  have hA : X * 2 ^ (ex - qm f).toNat = a * 2 ^ (e - qm f).toNat := by
    rw [← ha, Nat.mul_assoc, ← Nat.pow_add]; congr 2; omega
  have hB : Y * 2 ^ (ey - qm f).toNat = b * 2 ^ (e - qm f).toNat := by
    rw [← hb, Nat.mul_assoc, ← Nat.pow_add]; congr 2; omega
  have hr : ∀ m neg N, N ≠ 0 → rndN f m neg N e false = (mkF f neg (rndM f m neg (N * 2 ^ (e - qm f).toNat) (qm f)).1, (rndM f m neg (N * 2 ^ (e - qm f).toNat) (qm f)).2) :=
    fun m neg N hN => rnd_qm hf m neg hN he2.2.2
  have hsum := Nat.add_mul a b (2 ^ (e - qm f).toNat)
  have hd1 := Nat.sub_mul a b (2 ^ (e - qm f).toNat)
  have hd2 := Nat.sub_mul b a (2 ^ (e - qm f).toNat)
  unfold vI
  rw [hA, hB]
  have hz : ∀ n : Nat, n * 2 ^ (e - qm f).toNat = 0 → n = 0 := fun n h => by
    rcases Nat.mul_eq_zero.1 h with h | h
    · exact h
    · omega
  have hz2 : ∀ n : Nat, n ≠ 0 → n * 2 ^ (e - qm f).toNat ≠ 0 := fun n h h2 => h (hz n h2)
  by_cases hn : nx = ny
  · subst hn
    have hT : (bif nx then -((a * 2 ^ (e - qm f).toNat : Nat) : Int) else ((a * 2 ^ (e - qm f).toNat : Nat) : Int)) + (bif nx then -((b * 2 ^ (e - qm f).toNat : Nat) : Int) else ((b * 2 ^ (e - qm f).toNat : Nat) : Int)) = bif nx then -(((a + b) * 2 ^ (e - qm f).toNat : Nat) : Int) else (((a + b) * 2 ^ (e - qm f).toNat : Nat) : Int) := by
      rw [hsum]; cases nx <;> simp only [cond_true, cond_false] <;> omega
    rw [hT]
    refine ⟨fun h m => ?_, fun h m => ?_⟩
    · have : a + b = 0 := hz _ (by cases nx <;> simp only [cond_true, cond_false] at h <;> omega)
      exact ⟨nx, by rw [hS, if_pos rfl, if_pos this]⟩
    · have h0 : a + b ≠ 0 := fun h1 => h (by rw [h1, Nat.zero_mul]; cases nx <;> rfl)
      have h1 := hz2 _ h0
      rw [hS, if_pos rfl, if_neg h0, hr _ _ _ h0]
      generalize (a + b) * 2 ^ (e - qm f).toNat = n at *
      cases nx <;> simp only [cond_true, cond_false]
      · rw [decide_eq_false (by omega), Int.natAbs_natCast]
      · rw [decide_eq_true (by omega), Int.natAbs_neg, Int.natAbs_natCast]
  · have hny : ny = !nx := by cases nx <;> cases ny <;> first | rfl | exact absurd rfl hn
    subst hny
    rcases Nat.lt_trichotomy a b with hab | hab | hab
    · have hT : (bif nx then -((a * 2 ^ (e - qm f).toNat : Nat) : Int) else ((a * 2 ^ (e - qm f).toNat : Nat) : Int)) + (bif !nx then -((b * 2 ^ (e - qm f).toNat : Nat) : Int) else ((b * 2 ^ (e - qm f).toNat : Nat) : Int)) = bif !nx then -(((b - a) * 2 ^ (e - qm f).toNat : Nat) : Int) else (((b - a) * 2 ^ (e - qm f).toNat : Nat) : Int) := by
        have := Nat.mul_le_mul_right (2 ^ (e - qm f).toNat) (Nat.le_of_lt hab)
        rw [hd2]; cases nx <;> simp only [cond_true, cond_false, Bool.not_true, Bool.not_false] <;> omega
      have h0 : b - a ≠ 0 := by omega
      have h1 := hz2 _ h0
      rw [hT]
      refine ⟨fun h => ?_, fun h m => ?_⟩
      · exfalso
        generalize (b - a) * 2 ^ (e - qm f).toNat = n at *
        cases nx <;> simp only [cond_true, cond_false, Bool.not_true, Bool.not_false] at h <;> omega
      · rw [hS, if_neg hn, if_neg (show ¬ a = b by omega), if_neg (show ¬ b < a by omega), hr _ _ _ h0]
        generalize (b - a) * 2 ^ (e - qm f).toNat = n at *
        cases nx <;> simp only [cond_true, cond_false, Bool.not_true, Bool.not_false]
        · rw [decide_eq_true (by omega), Int.natAbs_neg, Int.natAbs_natCast]
        · rw [decide_eq_false (by omega), Int.natAbs_natCast]
    · subst hab
      refine ⟨fun _ m => ⟨m == 4, by rw [hS, if_neg hn, if_pos rfl]⟩, fun h => ?_⟩
      exfalso
      apply h
      cases nx <;> simp only [cond_true, cond_false, Bool.not_true, Bool.not_false] <;> omega
    · have hT : (bif nx then -((a * 2 ^ (e - qm f).toNat : Nat) : Int) else ((a * 2 ^ (e - qm f).toNat : Nat) : Int)) + (bif !nx then -((b * 2 ^ (e - qm f).toNat : Nat) : Int) else ((b * 2 ^ (e - qm f).toNat : Nat) : Int)) = bif nx then -(((a - b) * 2 ^ (e - qm f).toNat : Nat) : Int) else (((a - b) * 2 ^ (e - qm f).toNat : Nat) : Int) := by
        have := Nat.mul_le_mul_right (2 ^ (e - qm f).toNat) (Nat.le_of_lt hab)
        rw [hd1]; cases nx <;> simp only [cond_true, cond_false, Bool.not_true, Bool.not_false] <;> omega
      have h0 : a - b ≠ 0 := by omega
      have h1 := hz2 _ h0
      rw [hT]
      refine ⟨fun h => ?_, fun h m => ?_⟩
      · exfalso
        generalize (a - b) * 2 ^ (e - qm f).toNat = n at *
        cases nx <;> simp only [cond_true, cond_false] at h <;> omega
      · rw [hS, if_neg hn, if_neg (show ¬ a = b by omega), if_pos hab, hr _ _ _ h0]
        generalize (a - b) * 2 ^ (e - qm f).toNat = n at *
        cases nx <;> simp only [cond_true, cond_false]
        · rw [decide_eq_false (by omega), Int.natAbs_natCast]
        · rw [decide_eq_true (by omega), Int.natAbs_neg, Int.natAbs_natCast]
/-- what a mode's rounding is beside the others -/
def modeOk (m : Int) (neg : Bool) (B : Nat) (inex : Bool) (r : Nat × Nat) : Prop :=
  ∃ up : Bool, r.1 = B + (bif up then 1 else 0) ∧ (inex = false → up = false ∧ r.2 = 0) ∧
    (inex = true → (r.2 = 16 ∨ r.2 = 20) ∧ (m = 3 → up = !neg) ∧ (m = 4 → up = neg) ∧ (m = 2 → up = false) ∧ (m = 5 → r.1 % 2 = 1 ∨ r.2 = 20))
theorem lim_ok {f m : Int} (hf : Fm f) (hm : 0 ≤ m ∧ m ≤ 5) (neg : Bool) : modeOk m neg (infF f - 1) true (limM f m neg, 20) := by
  have hp := infF_pos hf
  refine ⟨upw m neg, ?_, fun h => (by cases h), fun _ => ⟨.inr rfl, ?_, ?_, ?_, fun _ => .inr rfl⟩⟩
  · unfold limM; cases upw m neg <;> simp <;> omega
  · rintro rfl; cases neg <;> rfl
  · rintro rfl; cases neg <;> rfl
  · rintro rfl; cases neg <;> rfl
theorem up_end {m : Int} (hm : 0 ≤ m ∧ m ≤ 5) {neg : Bool} {c : Nat} (hc : c = 1 ∨ c = 2 ∨ c = 3) (h : furM m neg true c = true) : upw m neg = true := by
  rcases hc with rfl | rfl | rfl <;> rcases mode_cases hm with rfl | rfl | rfl | rfl | rfl | rfl <;> cases neg <;> first | rfl | (revert h; decide)
theorem rnd_modes {f : Int} (hf : Fm f) (neg : Bool) {n : Nat} (h0 : n ≠ 0) : ∃ (B : Nat) (inex : Bool), ∀ m, 0 ≤ m ∧ m ≤ 5 → modeOk m neg B inex (rndM f m neg n (qm f)) := by
  have hp := infF_pos hf
  have h2p := two_P hf
  have hP := fP_ge hf
  have hX := fX_ge hf
  have hpp := Nat.two_pow_pos (fP f - 1)
  have hinf := inf_ge hf
  have hev : ∃ H, 2 ^ (fP f - 1) = 2 * H := ⟨2 ^ (fP f - 2), by rw [← Nat.pow_succ', Nat.succ_eq_add_one]; congr 1; omega⟩
  obtain ⟨H, hH⟩ := hev
  by_cases h : n < 2 ^ fP f
  · refine ⟨n, false, fun m hm => ?_⟩
    have hmu : muM f m neg n = n := by unfold muM; rw [if_pos h]
    have hlt : 2 * 2 ^ (fP f - 1) ≤ (2 * fX f + 1) * 2 ^ (fP f - 1) := Nat.mul_le_mul_right _ (by omega)
    rw [rndM_mu hf m neg h0, hmu, if_neg (by omega), if_pos h]
    exact ⟨false, rfl, fun _ => ⟨rfl, rfl⟩, fun hh => (by cases hh)⟩
  · have hj := quo_bound hf h
    by_cases hB : infF f ≤ (blen n - fP f) * 2 ^ (fP f - 1) + n / 2 ^ (blen n - fP f)
    · refine ⟨infF f - 1, true, fun m hm => ?_⟩
      have hc := (cutJ_bound m neg n (blen n - fP f)).1
      have hmu : muM f m neg n = (blen n - fP f) * 2 ^ (fP f - 1) + cutJ m neg n (blen n - fP f) := by unfold muM; rw [if_neg h]
      rw [rndM_mu hf m neg h0, if_pos (by omega)]
      exact lim_ok hf hm neg
    · have hcl := clsR_le (n % 2 ^ (blen n - fP f)) (blen n - fP f)
      refine ⟨(blen n - fP f) * 2 ^ (fP f - 1) + n / 2 ^ (blen n - fP f), decide (clsR (n % 2 ^ (blen n - fP f)) (blen n - fP f) ≠ 0), fun m hm => ?_⟩
      have hmu : muM f m neg n = (blen n - fP f) * 2 ^ (fP f - 1) + cutJ m neg n (blen n - fP f) := by unfold muM; rw [if_neg h]
      rw [rndM_mu hf m neg h0, hmu, if_neg h]
      unfold cutJ
      generalize blen n - fP f = j at *
      generalize n / 2 ^ j = Q at *
      generalize clsR (n % 2 ^ j) j = c at *
      have hje : j * 2 ^ (fP f - 1) = 2 * (j * H) := by rw [hH, Nat.mul_left_comm]
      by_cases hc0 : c = 0
      · rw [if_neg (show ¬ (c ≠ 0 ∧ furM m neg (decide (Q % 2 = 1)) c = true) from fun hh => hh.1 hc0), if_neg (show ¬ infF f ≤ j * 2 ^ (fP f - 1) + Q by omega), if_pos hc0]
        exact ⟨false, rfl, fun _ => ⟨rfl, rfl⟩, fun hh => (by simp [hc0] at hh)⟩
      · have hc1 : c = 1 ∨ c = 2 ∨ c = 3 := by omega
        by_cases hu : furM m neg (decide (Q % 2 = 1)) c = true
        · rw [if_pos (show c ≠ 0 ∧ furM m neg (decide (Q % 2 = 1)) c = true from ⟨hc0, hu⟩), if_neg hc0]
          by_cases hend : infF f ≤ j * 2 ^ (fP f - 1) + (Q + 1)
          · have hQ : Q % 2 = 1 := by
              have : (2 * fX f + 1) * 2 ^ (fP f - 1) = 2 * ((2 * fX f + 1) * H) := by rw [hH, Nat.mul_left_comm]
              omega
            rw [decide_eq_true hQ] at hu
            have hup := up_end hm hc1 hu
            rw [if_pos hend]
            refine ⟨true, ?_, fun hh => (by simp [hc0] at hh), fun _ => ⟨.inr rfl, ?_, ?_, ?_, fun _ => .inr rfl⟩⟩
            · unfold limM; rw [if_pos hup]; simp only [cond_true]; omega
            · rintro rfl; revert hup; cases neg <;> decide
            · rintro rfl; revert hup; cases neg <;> decide
            · rintro rfl; revert hup; cases neg <;> decide
          · rw [if_neg hend]
            refine ⟨true, rfl, fun hh => (by simp [hc0] at hh), fun _ => ⟨.inl rfl, ?_, ?_, ?_, ?_⟩⟩
            · rintro rfl; revert hu; unfold furM; cases neg <;> simp
            · rintro rfl; revert hu; unfold furM; cases neg <;> simp
            · rintro rfl; revert hu; unfold furM; cases neg <;> simp
            · rintro rfl
              left
              have : Q % 2 = 0 := by
                unfold furM at hu
                simp at hu
                omega
              show (j * 2 ^ (fP f - 1) + (Q + 1)) % 2 = 1
              omega
        · rw [if_neg (show ¬ (c ≠ 0 ∧ furM m neg (decide (Q % 2 = 1)) c = true) from fun hh => hu hh.2), if_neg (show ¬ infF f ≤ j * 2 ^ (fP f - 1) + Q by omega), if_neg hc0]
          refine ⟨false, rfl, fun hh => (by simp [hc0] at hh), fun _ => ⟨.inl rfl, ?_, ?_, ?_, ?_⟩⟩
          · rintro rfl; revert hu; unfold furM; cases neg <;> simp
          · rintro rfl; revert hu; unfold furM; cases neg <;> simp
          · rintro rfl; rfl
          · rintro rfl
            left
            have : Q % 2 = 1 := by
              unfold furM at hu
              simp at hu
              omega
            show (j * 2 ^ (fP f - 1) + Q) % 2 = 1
            omega
end VL
namespace VL
open Go Vx
theorem xpn_ge (f : Int) (a : Nat) : qm f ≤ xpn f a := by
  unfold xpn qm
  split <;> omega
theorem modes_facts {f : Int} (hf : Fm f) {a b : Nat} (ha : chk f a = 0) (hb : chk f b = 0) (fa : eF f a ≠ fullF f) (fb : eF f b ≠ fullF f) :
    ∃ (V G : Nat → Nat) (P : Nat → Int), (∀ m : Nat, m ≤ 5 → addN f m a b = (V m, G m) ∧ place f (V m) = P m ∧ nan f (V m) = false ∧ chk f (V m) = 0) ∧
      (P 4 = P 3 → ∀ m, m ≤ 5 → P m = P 4 ∧ G m = 0) ∧
      (P 4 ≠ P 3 → P 3 = P 4 + 1 ∧ (∀ m, m ≤ 5 → (P m = P 4 ∨ P m = P 3) ∧ (G m = 16 ∨ G m = 20)) ∧ (P 4 ≥ 0 → P 2 = P 4) ∧ (P 3 ≤ 0 → P 2 = P 3) ∧ (V 5 % 2 = 1 ∨ G 5 = 20)) := by
  obtain ⟨v1, v2, v3⟩ := part_vals fa
  obtain ⟨w1, w2, w3⟩ := part_vals fb
  have hadd : ∀ m : Int, addN f m a b = sumBits f m (sF f a) (mant f a) (xpn f a) (sF f b) (mant f b) (xpn f b) := fun m => by
    unfold addN
    rw [v1, v2, v3, w1, w2, w3]; rfl
  obtain ⟨hz, hnz⟩ := sum_form hf (sF f a) (mant f a) (xpn f a) (sF f b) (mant f b) (xpn f b) (xpn_ge f a) (xpn_ge f b)
  have hil := infF_lt hf
  have hW : ∃ H, 2 ^ (fW f - 1) = 2 * H := ⟨2 ^ (fW f - 2), by
    have := fP_lt hf
    have := fP_ge hf
    rw [← Nat.pow_succ', Nat.succ_eq_add_one]; congr 1; omega⟩
  obtain ⟨H, hH⟩ := hW
  by_cases h0 : vI f (sF f a) (mant f a) (xpn f a) + vI f (sF f b) (mant f b) (xpn f b) = 0
  · have key : ∀ m : Nat, (addN f m a b).2 = 0 ∧ place f (addN f m a b).1 = 0 ∧ nan f (addN f m a b).1 = false ∧ chk f (addN f m a b).1 = 0 := fun m => by
      obtain ⟨s, hs⟩ := hz h0 m
      rw [hadd, hs, sgn_zero]
      refine ⟨rfl, ?_, mk_nan hf s (Nat.zero_le _), mk_chk hf s (Nat.two_pow_pos _)⟩
      rw [mk_place s (Nat.two_pow_pos _)]; cases s <;> rfl
    refine ⟨fun m => (addN f m a b).1, fun m => (addN f m a b).2, fun m => place f (addN f m a b).1, fun m _ => ⟨rfl, rfl, (key m).2.2.1, (key m).2.2.2⟩, fun _ m _ => ⟨?_, (key m).1⟩, fun h => ?_⟩
    · show place f (addN f m a b).1 = place f (addN f (4 : Nat) a b).1
      rw [(key m).2.1, (key 4).2.1]
    · exfalso; apply h
      show place f (addN f (4 : Nat) a b).1 = place f (addN f (3 : Nat) a b).1
      rw [(key 4).2.1, (key 3).2.1]
  · have hr := hnz h0
    generalize hneg : decide (vI f (sF f a) (mant f a) (xpn f a) + vI f (sF f b) (mant f b) (xpn f b) < 0) = neg at *
    have hn0 : (vI f (sF f a) (mant f a) (xpn f a) + vI f (sF f b) (mant f b) (xpn f b)).natAbs ≠ 0 := by omega
    generalize (vI f (sF f a) (mant f a) (xpn f a) + vI f (sF f b) (mant f b) (xpn f b)).natAbs = n at *
    obtain ⟨B, inex, hmo⟩ := rnd_modes hf neg hn0
    have key : ∀ m : Nat, addN f m a b = (mkF f neg (rndM f m neg n (qm f)).1, (rndM f m neg n (qm f)).2) := fun m => by rw [hadd, hr]
    have hle : ∀ m : Nat, (rndM f m neg n (qm f)).1 ≤ infF f := fun m => rndM_le hf _ _ _ _
    have hpl : ∀ m : Nat, place f (addN f m a b).1 = bif neg then -((rndM f m neg n (qm f)).1 : Int) else (rndM f m neg n (qm f)).1 := fun m => by
      rw [key, mk_place neg (Nat.lt_of_le_of_lt (hle m) hil)]
    have h4 := hmo ((4 : Nat) : Int) (by omega)
    have h3 := hmo ((3 : Nat) : Int) (by omega)
    have h2 := hmo ((2 : Nat) : Int) (by omega)
    have h5 := hmo ((5 : Nat) : Int) (by omega)
    have hall : ∀ m : Nat, m ≤ 5 → modeOk m neg B inex (rndM f m neg n (qm f)) := fun m hm => hmo m (by omega)
    obtain ⟨u4, a4, b4, c4⟩ := h4
    obtain ⟨u3, a3, b3, c3⟩ := h3
    obtain ⟨u2, a2, b2, c2⟩ := h2
    obtain ⟨u5, a5, b5, c5⟩ := h5
    refine ⟨fun m => (addN f m a b).1, fun m => (addN f m a b).2, fun m => place f (addN f m a b).1, fun m _ => ⟨rfl, rfl, ?_, ?_⟩, fun h m hm => ?_, fun h => ?_⟩
    · show nan f (addN f m a b).1 = false
      rw [key]; exact mk_nan hf neg (hle m)
    · show chk f (addN f m a b).1 = 0
      rw [key]; exact mk_chk hf neg (Nat.lt_of_le_of_lt (hle m) hil)
    · show place f (addN f m a b).1 = place f (addN f (4 : Nat) a b).1 ∧ (addN f m a b).2 = 0
      have h : place f (addN f (4 : Nat) a b).1 = place f (addN f (3 : Nat) a b).1 := h
      obtain ⟨um, am, bm, cm⟩ := hall m hm
      rw [hpl, hpl] at h
      rw [hpl, hpl, key]
      cases inex with
      | false =>
        obtain ⟨rfl, e1⟩ := bm rfl
        obtain ⟨rfl, _⟩ := b4 rfl
        exact ⟨by rw [am, a4], e1⟩
      | true =>
        exfalso
        have k4 := (c4 rfl).2.2.1 rfl
        have k3 := (c3 rfl).2.1 rfl
        subst k4 k3
        rw [a4, a3] at h
        cases u4 <;> simp only [cond_true, cond_false, Bool.not_true, Bool.not_false] at h <;> omega
    · have h : place f (addN f (4 : Nat) a b).1 ≠ place f (addN f (3 : Nat) a b).1 := h
      show place f (addN f (3 : Nat) a b).1 = place f (addN f (4 : Nat) a b).1 + 1 ∧ (∀ m : Nat, m ≤ 5 → (place f (addN f m a b).1 = place f (addN f (4 : Nat) a b).1 ∨ place f (addN f m a b).1 = place f (addN f (3 : Nat) a b).1) ∧ ((addN f m a b).2 = 16 ∨ (addN f m a b).2 = 20)) ∧
        (place f (addN f (4 : Nat) a b).1 ≥ 0 → place f (addN f (2 : Nat) a b).1 = place f (addN f (4 : Nat) a b).1) ∧ (place f (addN f (3 : Nat) a b).1 ≤ 0 → place f (addN f (2 : Nat) a b).1 = place f (addN f (3 : Nat) a b).1) ∧ ((addN f (5 : Nat) a b).1 % 2 = 1 ∨ (addN f (5 : Nat) a b).2 = 20)
      cases inex with
      | false =>
        exfalso; apply h
        obtain ⟨rfl, _⟩ := b4 rfl
        obtain ⟨rfl, _⟩ := b3 rfl
        rw [hpl, hpl, a4, a3]
      | true =>
        obtain ⟨_, _, k4, _⟩ := c4 rfl
        obtain ⟨_, k3, _⟩ := c3 rfl
        obtain ⟨_, _, _, k2, _⟩ := c2 rfl
        obtain ⟨_, _, _, _, k5⟩ := c5 rfl
        have k4 := k4 rfl
        have k3 := k3 rfl
        have k2 := k2 rfl
        have k5 := k5 rfl
        subst k4 k3 k2
        rw [hpl 4, hpl 3, hpl 2, a4, a3, a2]
        refine ⟨?_, fun m hm => ?_, ?_, ?_, ?_⟩
        · cases u4 <;> simp only [cond_true, cond_false, Bool.not_true, Bool.not_false] <;> omega
        · obtain ⟨um, am, _, cm⟩ := hall m hm
          rw [hpl, key, am]
          refine ⟨?_, (cm rfl).1⟩
          cases u4 <;> cases um <;> simp only [cond_true, cond_false, Bool.not_true, Bool.not_false] <;> first | omega | simp
        · cases u4 <;> simp only [cond_true, cond_false, Bool.not_true, Bool.not_false] <;> first | omega | simp
        · cases u4 <;> simp only [cond_true, cond_false, Bool.not_true, Bool.not_false] <;> first | omega | simp
        · rw [key]
          rcases k5 with k5 | k5
          · left
            show mkF f u4 (rndM f (5 : Nat) u4 n (qm f)).1 % 2 = 1
            unfold mkF
            cases u4 <;> simp only [cond_true, cond_false] <;> omega
          · right; exact k5
/-- six values, the first i of them filled -/
def sl (V : Nat → Int) (i : Nat) : List Int := [if 0 < i then V 0 else 0, if 1 < i then V 1 else 0, if 2 < i then V 2 else 0, if 3 < i then V 3 else 0, if 4 < i then V 4 else 0, if 5 < i then V 5 else 0]
theorem sl_len (V : Nat → Int) (i : Nat) : (sl V i).length = 6 := by simp [sl]
theorem sl_set (V : Nat → Int) {i : Nat} (h : i < 6) : (sl V i).set i (V i) = sl V (i + 1) := by
  rcases (show i = 0 ∨ i = 1 ∨ i = 2 ∨ i = 3 ∨ i = 4 ∨ i = 5 by omega) with rfl | rfl | rfl | rfl | rfl | rfl <;> rfl
theorem sl_get (V : Nat → Int) {i : Nat} (h : i < 6) : (sl V 6).getD i 0 = V i := by
  rcases (show i = 0 ∨ i = 1 ∨ i = 2 ∨ i = 3 ∨ i = 4 ∨ i = 5 by omega) with rfl | rfl | rfl | rfl | rfl | rfl <;> rfl
theorem W8_10_eq {f : Int} (m0 : Int) (a b c : Nat) (V P G : Nat → Int) (h30 : ∀ m : Nat, m < 6 → T30 (f, (m : Int), (a : Int), (b : Int), ()) = some (V m, G m, true, ()))
    (h34 : ∀ m : Nat, m < 6 → T34 (f, V m, ()) = some (false, ())) (h35 : ∀ m : Nat, m < 6 → T35 (f, V m, ()) = some (P m, ())) :
    W8_10 (((), ((0 : Int), ((), ((), ((), ()))))), ((f, m0, (a : Int), (b : Int), (c : Int), ()), (sl V 0, (sl P 0, (sl G 0, ()))))) = some (.inl (((), ((), ((), ()))), ((), (sl V 6, (sl P 6, (sl G 6, ())))))) := by
  have key := lfix_ind (m8_10 S24.pre S24.F S29.pre S29.F S36.pre S36.F S30.pre S30.F S34.pre S34.F S35.pre S35.F) (fun x => 6 - x.1.2.1.toNat)
    (fun x => ∃ i : Nat, i ≤ 6 ∧ x = (((), ((i : Int), ((), ((), ((), ()))))), ((f, m0, (a : Int), (b : Int), (c : Int), ()), (sl V i, (sl P i, (sl G i, ()))))))
    (fun _ => .inl (((), ((), ((), ()))), ((), (sl V 6, (sl P 6, (sl G 6, ())))))) ?_ (((), ((0 : Int), ((), ((), ((), ()))))), ((f, m0, (a : Int), (b : Int), (c : Int), ()), (sl V 0, (sl P 0, (sl G 0, ()))))) ⟨0, Nat.zero_le _, rfl⟩
  · exact key
  intro L x hx hL
  obtain ⟨i, hi, rfl⟩ := hx
  unfold h8_10
  rcases Nat.lt_or_ge i 6 with hlt | hge
  · have e1 : decide ((i : Int) < 6) = true := decide_eq_true (by omega)
    have e2 : decide ((i : Int) < ((6 : Nat) : Int)) = true := decide_eq_true (by omega)
    have p0 := h30 i hlt
    have p1 := h34 i hlt
    have p2 := h35 i hlt
    have hgo := hL (((), (((i + 1 : Nat) : Int), ((), ((), ((), ()))))), ((f, m0, (a : Int), (b : Int), (c : Int), ()), (sl V (i + 1), (sl P (i + 1), (sl G (i + 1), ()))))) ⟨i + 1, by omega, rfl⟩ (by simp only [Int.toNat_natCast]; omega)
    simp (disch := omega) only [e1, e2, pre30 p0, fun30 p0, pre34 p1, fun34 p1, pre35 p2, fun35 p2, wadd, wadd1, wadd64, wsubn, wsub1, wmul64, ilt_t, ilt_f, ile_t, ile_f, igt_t, igt_f, ige_t, ige_f, ipos_t, ipos_f, igt0_t, igt0_f, nnn, beq0_t, beq0_f, bne0_t, bne0_f, Int.toNat_natCast, Int.toNat_zero, cond_true, cond_false, Bool.and_self, Bool.true_and, Bool.and_true, Bool.false_and, Bool.and_false, Bool.not_true, Bool.not_false, Bool.or_self, Bool.true_or, Bool.or_true, Bool.false_or, Bool.or_false, sl_len, sl_set]
    exact hgo
  · have e : i = 6 := by omega
    subst e
    have e1 : decide (((6 : Nat) : Int) < 6) = false := rfl
    simp only [e1, cond_false]
theorem W8_21_eq (lo hi : Int) (V P G : Nat → Int) (hc : ∀ i : Nat, i < 6 → (!((G i == 0) == (lo == hi))) = false ∧ ((G i != 0) && (andI .i64 (G i) 16 == 0)) = false ∧ ((P i != lo) && (P i != hi)) = false ∧ decide (P i < lo) = false ∧ decide (P i > hi) = false ∧ (andNotI .i64 (G i) 20 != 0) = false) :
    W8_21 (((0 : Int), ((), ((), (lo, (hi, ((), ())))))), ((), (sl V 6, (sl P 6, (sl G 6, ()))))) = some (.inl (((), ((), (lo, (hi, ((), ()))))), ((), (sl V 6, (sl P 6, (sl G 6, ())))))) := by
  have key := lfix_ind (m8_21 S24.pre S24.F S29.pre S29.F S36.pre S36.F S30.pre S30.F S34.pre S34.F S35.pre S35.F) (fun x => 6 - x.1.1.toNat)
    (fun x => ∃ i : Nat, i ≤ 6 ∧ x = (((i : Int), ((), ((), (lo, (hi, ((), ())))))), ((), (sl V 6, (sl P 6, (sl G 6, ()))))))
    (fun _ => .inl (((), ((), (lo, (hi, ((), ()))))), ((), (sl V 6, (sl P 6, (sl G 6, ())))))) ?_ (((0 : Int), ((), ((), (lo, (hi, ((), ())))))), ((), (sl V 6, (sl P 6, (sl G 6, ()))))) ⟨0, Nat.zero_le _, rfl⟩
  · exact key
  intro L x hx hL
  obtain ⟨i, hi6, rfl⟩ := hx
  unfold h8_21
  rcases Nat.lt_or_ge i 6 with hlt | hge
  · have e1 : decide ((i : Int) < 6) = true := decide_eq_true (by omega)
    have e2 : decide ((i : Int) < ((6 : Nat) : Int)) = true := decide_eq_true (by omega)
    obtain ⟨c1, c2, c3, c4, c5, c6⟩ := hc i hlt
    have hgo := hL ((((i + 1 : Nat) : Int), ((), ((), (lo, (hi, ((), ())))))), ((), (sl V 6, (sl P 6, (sl G 6, ()))))) ⟨i + 1, by omega, rfl⟩ (by simp only [Int.toNat_natCast]; omega)
    simp (disch := omega) only [e1, e2, wadd, wadd1, wadd64, wsubn, wsub1, wmul64, ilt_t, ilt_f, ile_t, ile_f, igt_t, igt_f, ige_t, ige_f, ipos_t, ipos_f, igt0_t, igt0_f, nnn, beq0_t, beq0_f, bne0_t, bne0_f, Int.toNat_natCast, Int.toNat_zero, cond_true, cond_false, Bool.and_self, Bool.true_and, Bool.and_true, Bool.false_and, Bool.and_false, Bool.not_true, Bool.not_false, Bool.or_self, Bool.true_or, Bool.or_true, Bool.false_or, Bool.or_false, sl_len, sl_get, c1, c2, c3, c4, c5, c6]
    exact hgo
  · have e : i = 6 := by omega
    subst e
    have e1 : decide (((6 : Nat) : Int) < 6) = false := rfl
    simp only [e1, cond_false]
theorem flag_bits {g : Nat} (h : g = 0 ∨ g = 16 ∨ g = 20) : (((g : Int) != 0) && (andI .i64 (g : Int) 16 == 0)) = false ∧ (andNotI .i64 (g : Int) 20 != 0) = false := by
  rcases h with rfl | rfl | rfl <;> decide
theorem T8_true (F M : Int) (A B C : Nat) : T8 ((F, M, (A : Int), (B : Int), (C : Int), ()), ()) = some (true, ()) := by
  show t8 S24.pre S24.F S29.pre S29.F S36.pre S36.F S30.pre S30.F S34.pre S34.F S35.pre S35.F W8_10 W8_21 (F, M, (A : Int), (B : Int), (C : Int), ()) = _
  unfold t8
  obtain ⟨f, m, a, b, c, hf, hm, ha, hb, hc, p29⟩ := T29_ok F M A B C
  have p36a := T36_eq hf ha
  have p36b := T36_eq hf hb
  simp only [pre24 t24_true, fun24 t24_true, cond_true, Bool.not_true, cond_false, pre29 p29, fun29 p29, pre36 p36a, fun36 p36a, pre36 p36b, fun36 p36b, Bool.true_or]
  by_cases fa : eF f a ≠ fullF f
  · by_cases fb : eF f b ≠ fullF f
    · rw [decide_eq_true fa, decide_eq_true fb, Bool.not_true, Bool.or_self, cond_false]
      obtain ⟨V, G, P, h1, h2, h3⟩ := modes_facts hf ha hb fa fb
      have hw := W8_10_eq (f := f) m a b c (fun k => (V k : Int)) P (fun k => (G k : Int))
        (fun k hk => by
          have := T30_ok hf (m := (k : Int)) (by omega) ha hb
          rw [(h1 k (by omega)).1] at this
          exact this)
        (fun k hk => by
          have := T34_eq hf (h1 k (by omega)).2.2.2
          rw [(h1 k (by omega)).2.2.1] at this
          exact this)
        (fun k hk => by
          have := T35_eq hf (h1 k (by omega)).2.2.2
          rw [(h1 k (by omega)).2.1] at this
          exact this)
      have hG : ∀ k, k < 6 → G k = 0 ∨ G k = 16 ∨ G k = 20 := fun k hk => by
        by_cases he : P 4 = P 3
        · exact .inl (h2 he k (by omega)).2
        · exact .inr ((h3 he).2.1 k (by omega)).2
      have hlohi : P 4 ≤ P 3 := by
        by_cases he : P 4 = P 3
        · omega
        · have := (h3 he).1; omega
      have hP : ∀ k, k < 6 → P k = P 4 ∨ P k = P 3 := fun k hk => by
        by_cases he : P 4 = P 3
        · exact .inl (h2 he k (by omega)).1
        · exact ((h3 he).2.1 k (by omega)).1
      have hw2 := W8_21_eq (P 4) (P 3) (fun k => (V k : Int)) P (fun k => (G k : Int)) (fun k hk => by
        obtain ⟨g1, g2⟩ := flag_bits (hG k hk)
        refine ⟨?_, g1, ?_, ?_, ?_, g2⟩
        · by_cases he : P 4 = P 3
          · have := (h2 he k (by omega)).2
            show (!(((G k : Int) == 0) == (P 4 == P 3))) = false
            rw [this, he]; simp
          · have : G k ≠ 0 := by have := ((h3 he).2.1 k (by omega)).2; omega
            show (!(((G k : Int) == 0) == (P 4 == P 3))) = false
            rw [beq0_f _ this, ibeq_f _ _ he]; rfl
        · rcases hP k hk with h | h <;> rw [h] <;> simp
        · rcases hP k hk with h | h <;> rw [h] <;> exact decide_eq_false (by omega)
        · rcases hP k hk with h | h <;> rw [h] <;> exact decide_eq_false (by omega))
      have hs0 : ∀ X : Nat → Int, (0 : Int) :: ((0 : Int) :: ((0 : Int) :: ((0 : Int) :: ((0 : Int) :: ((0 : Int) :: []))))) = sl X 0 := fun _ => rfl
      rw [show W8_10 (((), ((0 : Int), ((), ((), ((), ()))))), ((f, m, (a : Int), (b : Int), (c : Int), ()), (((0 : Int) :: ((0 : Int) :: ((0 : Int) :: ((0 : Int) :: ((0 : Int) :: ((0 : Int) :: [])))))), (((0 : Int) :: ((0 : Int) :: ((0 : Int) :: ((0 : Int) :: ((0 : Int) :: ((0 : Int) :: [])))))), (((0 : Int) :: ((0 : Int) :: ((0 : Int) :: ((0 : Int) :: ((0 : Int) :: ((0 : Int) :: [])))))), ()))))) = _ from hw]
      dsimp only [obind, obind2]
      have l4 : decide ((4 : Int) < ((6 : Nat) : Int)) = true := rfl
      have l3 : decide ((3 : Int) < ((6 : Nat) : Int)) = true := rfl
      have l2 : decide ((2 : Int) < ((6 : Nat) : Int)) = true := rfl
      have l5 : decide ((5 : Int) < ((6 : Nat) : Int)) = true := rfl
      have g4 : ∀ X : Nat → Int, (sl X 6).getD (Int.toNat 4) 0 = X 4 := fun _ => rfl
      have g3 : ∀ X : Nat → Int, (sl X 6).getD (Int.toNat 3) 0 = X 3 := fun _ => rfl
      have g2 : ∀ X : Nat → Int, (sl X 6).getD (Int.toNat 2) 0 = X 2 := fun _ => rfl
      have g5 : ∀ X : Nat → Int, (sl X 6).getD (Int.toNat 5) 0 = X 5 := fun _ => rfl
      simp only [sl_len, l4, l3, g4, g3, cond_true, hw2]
      by_cases he : P 4 = P 3
      · have : (P 4 == P 3) = true := by simp [he]
        simp only [this, cond_true]
      · obtain ⟨q1, _, q2, q3, q4⟩ := h3 he
        have e1 : (IntKind.wrap .i64 (P 3 - P 4) != 1) = false := by
          rw [q1, show P 4 + 1 - P 4 = 1 by omega]; rfl
        have e2 : ((decide (P 4 ≥ 0) && (P 2 != P 4)) || (decide (P 3 ≤ 0) && (P 2 != P 3))) = false := by
          have x1 : (decide (P 4 ≥ 0) && (P 2 != P 4)) = false := by
            by_cases hh : P 4 ≥ 0
            · rw [q2 hh]; simp
            · rw [decide_eq_false hh]; rfl
          have x2 : (decide (P 3 ≤ 0) && (P 2 != P 3)) = false := by
            by_cases hh : P 3 ≤ 0
            · rw [q3 hh]; simp
            · rw [decide_eq_false hh]; rfl
          rw [x1, x2]; rfl
        have e3 : ((Int.tmod ((V 5 : Nat) : Int) 2 == 1) || (andI .i64 ((G 5 : Nat) : Int) 4 != 0)) = true := by
          rcases q4 with h | h
          · rw [tmod2, h]; rfl
          · rw [h, show (andI .i64 ((20 : Nat) : Int) 4 != 0) = true by decide, Bool.or_true]
        simp only [ibeq_f _ _ he, cond_false, e1, l2, l5, g2, g5, cond_true, e2, Bool.true_or, e3]
    · rw [decide_eq_false fb]
      cases decide (eF f a ≠ fullF f) <;> rfl
  · rw [decide_eq_false fa]; rfl
end VL
namespace Vx
open Go Go.RowKit Go.ChangeShapes Go.WideShapes
/-- numbers in their ranges, lengths below 2^63 -/
def wfD : (τ : Shape) → Den τ → Prop
  | .int k, n => k.min ≤ n ∧ n ≤ k.max
  | .slice e, xs => xs.length < lim ∧ ∀ x ∈ xs, wfD e x
  | .pair a b, x => wfD a x.1 ∧ wfD b x.2
  | .bool, _ => True
  | .str, _ => True
  | .fn, _ => True
  | .unit, _ => True
theorem DRep.wfD {w : World} {S : Nat → Prop} : ∀ {τ : Shape} {x : Den τ} {cs : List Value}, DRep w S τ x cs → wfD τ x
  | .int _, _, _, h => h.2
  | .bool, _, _, _ => trivial
  | .str, _, _, _ => trivial
  | .fn, _, _, _ => trivial
  | .unit, _, _, _ => trivial
  | .slice _, xs, _, ⟨A, c, _, h1, h2, h3⟩ => by
    refine ⟨Nat.lt_of_le_of_lt h1 h2, fun x hx => ?_⟩
    obtain ⟨r, o, vs, T, fz, _, _, _, h⟩ := h3 (List.ne_nil_of_mem hx)
    obtain ⟨i, hi⟩ := List.getElem?_of_mem hx
    obtain ⟨ds, hd, _⟩ := h i x hi
    exact hd.wfD
  | .pair _ _, _, _, ⟨c1, c2, _, h1, h2⟩ => ⟨h1.wfD, h2.wfD⟩
def wfS : (sg : Sig) → DenS sg → Prop
  | [], _ => True
  | (_, τ) :: r, x => wfD τ x.1 ∧ wfS r x.2
/-- what a datum says -/
def undat {H : Type} : (τ : Shape) → (DataW H → Option (Den τ)) × (List (DataW H) → Option (Den τ))
  | .int k => (fun d => match d with | .lit (.int k' n) => if k' = k then some n else none | _ => none, fun _ => none)
  | .bool => (fun d => match d with | .lit (.bool b) => some b | _ => none, fun _ => none)
  | .unit => (fun d => match d with | .agg [] => some () | _ => none, fun l => match l with | [] => some () | _ => none)
  | .pair a b =>
    let f := fun l => match l with
      | d :: r => (match (undat a).1 d, (undat b).2 r with | some x, some y => some (x, y) | _, _ => none)
      | [] => none
    (fun d => match d with | .agg l => f l | _ => none, f)
  | .str => (fun _ => none, fun _ => none)
  | .fn => (fun _ => none, fun _ => none)
  | .slice _ => (fun _ => none, fun _ => none)
/-- a type's shape -/
def fitF (P : Program) (g : TypeId → Shape → Bool) : List Field → Nat → Shape → Bool
  | [], _, .unit => true
  | f :: fs, o, .pair a b => (f.offset == o) && (P.cellsOf f.type == a.width) && g f.type a && fitF P g fs (o + a.width) b
  | _, _, _ => false
def fitB (P : Program) : Nat → TypeId → Shape → Bool
  | 0, _, _ => false
  | n + 1, t, τ => match P.underlying t with
    | some (.int k) => (match τ with | .int k' => decide (k = k') | _ => false)
    | some .bool => (match τ with | .bool => true | _ => false)
    | some (.slice e) => (match τ with | .slice σ => (P.cellsOf e == σ.width) && decide (0 < σ.width) && fitB P n e σ | _ => false)
    | some (.struct fs) => (P.cellsOf t == τ.width) && fitF P (fitB P n) fs.toList 0 τ
    | _ => false
theorem choose_list {A : Type} {Q : Nat → A → Prop} : ∀ (n : Nat), (∀ i, i < n → ∃ x, Q i x) → ∃ xs : List A, xs.length = n ∧ ∀ i x, xs[i]? = some x → Q i x
  | 0, _ => ⟨[], rfl, fun i x h => by simp at h⟩
  | n + 1, h => by
    obtain ⟨xs, h1, h2⟩ := choose_list n fun i hi => h i (by omega)
    obtain ⟨x, hx⟩ := h n (by omega)
    refine ⟨xs ++ [x], by simp [h1], fun i y hy => ?_⟩
    rcases Nat.lt_or_ge i n with hi | hi
    · rw [List.getElem?_append_left (by omega)] at hy
      exact h2 i y hy
    · rw [List.getElem?_append_right (by omega)] at hy
      have : i = n := by
        have := (List.getElem?_eq_some_iff.1 hy).1
        simp at this; omega
      subst this
      simp [h1] at hy
      exact hy ▸ hx
theorem wf_int {k : IntKind} {n : Int} (h : (Lit.int k n).wf = true) : k.min ≤ n ∧ n ≤ k.max := by
  simpa [Lit.wf] using h
section
variable {H : Type} {enc : TypeId × Value → H} {P : Program} {W : World} {spare : Nat → Bool} {held : Bool}
theorem fitF_ok {n : Nat} {m : Nat} {cs : List Value} (ih : ∀ (t : TypeId) (τ : Shape) (cs : List Value) (d : DataW H) (p : List MemPlace), fitB P n t τ = true → DataW.trod enc P W 0 spare held m t cs = some (d, p) → ∃ x : Den τ, DRep W (fun q => q < W.heap.size) τ x cs ∧ ∀ y, (undat τ).1 d = some y → x = y) :
    ∀ (l : List Field) (o : Nat) (τ : Shape) (xs : List (DataW H × List MemPlace)), fitF P (fitB P n) l o τ = true → xs.length = l.length → cs.length = o + τ.width →
      (∀ (i : Nat) (f : Field), l[i]? = some f → DataW.trod enc P W 0 spare held m f.type ((cs.drop f.offset).take (P.cellsOf f.type)) = xs[i]?) →
      ∃ x : Den τ, DRep W (fun q => q < W.heap.size) τ x (cs.drop o) ∧ ∀ y, (undat τ).2 (xs.map (·.1)) = some y → x = y
  | [], o, τ, xs, hf, hx, hl, _ => by
    cases τ <;> simp [fitF] at hf
    refine ⟨(), ?_, fun _ _ => rfl⟩
    show cs.drop o = []
    apply List.drop_eq_nil_of_le
    simp [Shape.width] at hl
    omega
  | f :: fs, o, τ, xs, hf, hx, hl, h => by
    cases τ with
    | pair a b =>
      simp only [fitF, Bool.and_eq_true, beq_iff_eq] at hf
      obtain ⟨⟨⟨ho, hc⟩, hg⟩, hr⟩ := hf
      cases xs with
      | nil => simp at hx
      | cons x0 xs =>
        have h0 := h 0 f rfl
        rw [ho, hc] at h0
        simp only [List.getElem?_cons_zero] at h0
        obtain ⟨xa, ha, hua⟩ := ih f.type a _ x0.1 x0.2 hg h0
        simp only [Shape.width] at hl
        obtain ⟨xb, hb, hub⟩ := fitF_ok ih fs (o + a.width) b xs hr (by simpa using hx) (by rw [hl]; omega) fun i g hi => by
          have := h (i + 1) g (by simpa using hi)
          simpa using this
        refine ⟨(xa, xb), ⟨(cs.drop o).take a.width, cs.drop (o + a.width), ?_, ha, hb⟩, fun y hy => ?_⟩
        · rw [← List.drop_drop, List.take_append_drop]
        · simp only [undat, List.map_cons] at hy
          split at hy
          · rename_i e1 e2
            have := hua _ e1; have := hub _ e2
            subst_vars
            exact Option.some.inj hy
          · cases hy
    | _ => simp [fitF] at hf
theorem fit_ok : ∀ (n : Nat) (m : Nat) (t : TypeId) (τ : Shape) (cs : List Value) (d : DataW H) (p : List MemPlace), fitB P n t τ = true → DataW.trod enc P W 0 spare held m t cs = some (d, p) →
    ∃ x : Den τ, DRep W (fun q => q < W.heap.size) τ x cs ∧ ∀ y, (undat τ).1 d = some y → x = y
  | 0, _, _, _, _, _, _, h, _ => by simp [fitB] at h
  | n + 1, m, t, τ, cs, d, p, h, ht => by
    unfold fitB at h
    split at h
    · rename_i k hk
      cases τ with
      | int k' =>
        simp only [decide_eq_true_eq] at h
        subst h
        obtain ⟨v, hv, hx, hw⟩ := DataW.trod_int hk ht
        simp only [Prod.mk.injEq] at hx
        refine ⟨v, ⟨hv, wf_int hw⟩, fun y hy => ?_⟩
        rw [hx.1] at hy
        simp only [undat, if_true] at hy
        exact Option.some.inj hy
      | _ => cases h
    · rename_i hk
      cases τ with
      | bool =>
        obtain ⟨v, hv, hx⟩ := DataW.trod_bool hk ht
        simp only [Prod.mk.injEq] at hx
        refine ⟨v, hv, fun y hy => ?_⟩
        rw [hx.1] at hy
        simp only [undat] at hy
        exact Option.some.inj hy
      | _ => cases h
    · rename_i e hk
      cases τ with
      | slice σ =>
        simp only [Bool.and_eq_true, beq_iff_eq, decide_eq_true_eq] at h
        obtain ⟨⟨hc, hpos⟩, hf⟩ := h
        rcases DataW.trod_slice hk ht with ⟨hcs, hx⟩ | ⟨a, len, cap, elems, rest, m', rfl, hcs, hx, hb, hlc, hcap, hlen, hel, _⟩
        · exact ⟨[], ⟨none, 0, hcs, Nat.le_refl _, by decide, fun h => absurd rfl h⟩, fun y hy => by simp [undat] at hy⟩
        · have each : ∀ i, i < len → ∃ x : Den σ, ∃ ds, W.cells? 0 (a.add (i * P.cellsOf e)) (P.cellsOf e) = some ds ∧ DRep W (fun q => q < W.heap.size) σ x ds := fun i hi => by
            have := hel i hi
            rw [List.getElem?_eq_getElem (by omega), Option.bind_eq_some_iff] at this
            obtain ⟨ds, h1, h2⟩ := this
            obtain ⟨x, hx, _⟩ := fit_ok n m' e σ ds (elems[i]'(by omega)).1 (elems[i]'(by omega)).2 hf h2
            exact ⟨x, ds, h1, hx⟩
          obtain ⟨xs, hxl, hxs⟩ := choose_list len each
          refine ⟨xs, ⟨some a, cap, by rw [hxl]; exact hcs, by omega, by unfold lim; unfold maxLen at hcap; omega, fun hne => ?_⟩, fun y hy => by simp [undat] at hy⟩
          have h0 : 0 < xs.length := List.length_pos_iff.2 hne
          obtain ⟨ds0, hd0, _⟩ := hxs 0 xs[0] (List.getElem?_eq_getElem h0)
          obtain ⟨_, hl0, hc0⟩ := World.cells?_some hd0
          have hz : a.add (0 * P.cellsOf e) = a := by simp [Addr.add]
          have hz' : a.add 0 = a := by simp [Addr.add]
          rw [hz] at hc0
          have hc00 := hc0 0 (by omega)
          rw [hz', List.getElem?_eq_getElem (by omega)] at hc00
          unfold World.cell? at hc00
          split at hc00
          · rename_i c T fz hheap
            split at hc00
            · cases hc00
            · rename_i hspot
              have hs : a.spot = none := by simpa using hspot
              have hadd : ∀ q, a.add q = ⟨a.block, a.off + q, none⟩ := fun q => by
                unfold Addr.add
                split
                · subst_vars; cases a; simp at hs; simp [hs]
                · rfl
              have ha : a = ⟨a.block, a.off, none⟩ := by cases a; simp at hs; simp [hs]
              refine ⟨a.block, a.off, c, T, fz, by rw [← ha], ?_, hheap, fun i x hi => ?_⟩
              · exact (Array.getElem?_eq_some_iff.1 hheap).1
              · obtain ⟨ds, hd, hr⟩ := hxs i x hi
                refine ⟨ds, hr, fun j v hj => ?_⟩
                obtain ⟨_, hl, hcj⟩ := World.cells?_some hd
                have hjl : j < P.cellsOf e := by rw [← hl]; exact (List.getElem?_eq_some_iff.1 hj).1
                have := hcj j hjl
                rw [hadd, hj] at this
                have hadd2 : (⟨a.block, a.off + i * P.cellsOf e, none⟩ : Addr).add j = ⟨a.block, a.off + i * P.cellsOf e + j, none⟩ := by
                  unfold Addr.add
                  split
                  · subst_vars; rfl
                  · rfl
                rw [hadd2] at this
                unfold World.cell? at this
                simp only [hheap] at this
                rw [hc] at this
                exact this
          · cases hc00
      | _ => cases h
    · rename_i fs hk
      simp only [Bool.and_eq_true, beq_iff_eq] at h
      obtain ⟨hc, hf⟩ := h
      obtain ⟨xs, m', rfl, hx, hl, hxl, hel⟩ := DataW.trod_struct hk ht
      simp only [Prod.mk.injEq] at hx
      obtain ⟨x, h1, h2⟩ := fitF_ok (fun t τ cs d p => fit_ok n m' t τ cs d p) fs.toList 0 τ xs hf (by simpa using hxl) (by rw [hl, hc]; omega) fun i f hi => hel i f (by simpa using hi)
      refine ⟨x, by simpa using h1, fun y hy => h2 y ?_⟩
      rw [hx.1] at hy
      cases τ with
      | pair a b => exact hy
      | unit =>
        simp only [undat] at hy ⊢
        split at hy
        · rename_i e; simp only [DataW.agg.injEq] at e; rw [e]
        · cases hy
      | _ => simp [undat] at hy
    · cases h
end
end Vx
namespace Vx
open Go Go.RowKit Go.ChangeShapes Go.WideShapes
def isStruct (P : Program) (t : TypeId) : Bool := match P.underlying t with
  | some (.struct _) => true
  | _ => false
def fitS (P : Program) (n : Nat) : List TypeId → Sig → Bool
  | [], [] => true
  | t :: ts, (a, τ) :: r => fitB P n t τ && (a == isStruct P t) && fitS P n ts r
  | _, _ => false
section
variable {H : Type} {enc : TypeId × Value → H} {P : Program} {W : World}
theorem cells_one {n : Nat} {t : TypeId} {τ : Shape} {r : Reach} {b0 : Nat} {v : Value} (hf : fitB P n t τ = true) (hs : isStruct P t = false) (hv : Value.okWide P W r b0 t v) : v.cells.toList = [v] := by
  cases n with
  | zero => simp [fitB] at hf
  | succ n =>
    unfold fitB at hf
    split at hf
    · rename_i k hk; obtain ⟨_, rfl⟩ := okWide_int hk hv; rfl
    · rename_i hk; obtain ⟨_, rfl⟩ := okWide_bool hk hv; rfl
    · rename_i e hk; obtain ⟨_, _, _, rfl⟩ := okWide_slice hk hv; rfl
    · rename_i fs hk; simp [isStruct, hk] at hs
    · cases hf
theorem erep_plain {S : Nat → Prop} {a : Bool} {τ : Shape} {x : Den τ} {y : Value} (ho : ownE a τ = false) (h : PRep W S a τ x y) : ERep W S a τ x y [] := by
  cases τ with
  | slice e =>
    cases a with
    | true => cases ho
    | false => exact ⟨rfl, h⟩
  | _ => exact ⟨rfl, h⟩
theorem args_ok {n : Nat} {sp : Nat → Bool} {held : Bool} {b0 : Nat} : ∀ (ts : List TypeId) (I : Sig) (vs : List Value) (ds : List (DataW H)) (ps : List MemPlace), fitS P n ts I = true →
    (∀ (j : Nat) (t : TypeId) (v : Value), ts[j]? = some t → vs[j]? = some v → Value.okWide P W .any b0 t v) → DataW.TrodAll enc P W 0 sp held ts vs ds ps → ∃ x : DenS I, SRep W (fun q => q < W.heap.size) I x vs [] ∧ wfS I x ∧ ds.length = ts.length
  | [], [], vs, ds, ps, _, _, h => by
    cases vs <;> cases ds <;> simp [DataW.TrodAll] at h
    exact ⟨(), ⟨rfl, rfl⟩, trivial, rfl⟩
  | [], _ :: _, _, _, _, hf, _, _ => by simp [fitS] at hf
  | _ :: _, [], _, _, _, hf, _, _ => by simp [fitS] at hf
  | t :: ts, (a, τ) :: I, vs, ds, ps, hf, hv, h => by
    cases vs with
    | nil => simp [DataW.TrodAll] at h
    | cons v vs =>
      cases ds with
      | nil => simp [DataW.TrodAll] at h
      | cons d ds =>
        obtain ⟨p, q, ⟨m, hp⟩, hq, _⟩ := h
        simp only [fitS, Bool.and_eq_true, beq_iff_eq] at hf
        obtain ⟨⟨h1, h2⟩, h3⟩ := hf
        obtain ⟨x, hx, hw, hl⟩ := args_ok ts I vs ds q h3 (fun j t v ht hv' => hv (j + 1) t v (by simpa using ht) (by simpa using hv')) hq
        obtain ⟨y, hy, _⟩ := fit_ok n m t τ _ d p h1 hp
        have hok := hv 0 t v rfl rfl
        refine ⟨(y, x), ⟨v, vs, [], [], rfl, rfl, erep_plain ?_ ?_, hx⟩, ⟨hy.wfD, hw⟩, by simp [hl]⟩
        · cases τ with
          | slice σ =>
            show a = false
            rw [h2]
            cases n with
            | zero => simp [fitB] at h1
            | succ n =>
              unfold fitB at h1
              unfold isStruct
              split at h1 <;> rename_i hk <;> first | (rw [hk]; done) | (simp only [hk]; done) | (simp [fitF] at h1; done) | skip
          | _ => rfl
        cases a with
        | true =>
          have hs : isStruct P t = true := h2.symm
          unfold isStruct at hs
          split at hs
          · rename_i fs hk
            unfold Value.okWide at hok
            rw [hk] at hok
            obtain ⟨cs, rfl, _⟩ := hok
            exact ⟨cs.toList, by simp, hy⟩
          · cases hs
        | false =>
          have hs : isStruct P t = false := h2.symm
          rw [cells_one h1 hs hok] at hy
          exact hy
theorem trodAll_below (hl : laidOutB P = true) {W' : World} (hb : Below W.heap.size W W') : ∀ (ts : List TypeId) (vs : List Value) (ds : List (DataW H)) (ps : List MemPlace), (ts.all fun t => P.readableRec t && decide (t < P.types.size)) = true →
    DataW.TrodAll enc P W 0 (fun _ => true) true ts vs ds ps → (∀ x ∈ ps, x.block < W.heap.size) → DataW.TrodAll enc P W' 0 (fun b => decide (b < W.heap.size)) true ts vs ds ps
  | [], vs, ds, ps, _, h, _ => by
    cases vs <;> cases ds <;> simp [DataW.TrodAll] at h ⊢
    exact h
  | t :: ts, vs, ds, ps, hr, h, hlt => by
    cases vs with
    | nil => simp [DataW.TrodAll] at h
    | cons v vs =>
      cases ds with
      | nil => simp [DataW.TrodAll] at h
      | cons d ds =>
        obtain ⟨p, q, hp, hq, rfl⟩ := h
        simp only [List.all_cons, Bool.and_eq_true, decide_eq_true_eq] at hr
        exact ⟨p, q, Below.trod hl hr.1.1 hr.1.2 hp hb (fun x hx => hlt x (List.mem_append.2 (.inl hx))),
          trodAll_below hl hb ts vs ds q hr.2 hq (fun x hx => hlt x (List.mem_append.2 (.inr hx))), rfl⟩
/-- a table that is laid -/
theorem glob_of {n : String} {g : Nat} {t e : TypeId} {m k : Nat} {τ : Shape} {ds : List (DataW Unit)} {xs : List (Den τ)} {r : List (String × DataW Unit)} {ps : List MemPlace}
    (hL : DataW.LaidVars P W ((n, .agg ds) :: r) ps) (hg : P.globalNamed n = some g) (ht : (P.globals[g]?).map (·.type) = some t) (hu : P.underlying t = some (.array m e)) (hc : P.cellsOf e = τ.width) (hf : fitB P k e τ = true)
    (hx : ds.map (undat τ).1 = xs.map some) :
    (g < W.heap.size ∧ ∃ vs T fz, W.heap[g]? = some (.cells vs T fz) ∧ Rows W (fun q => q < W.heap.size) τ vs 0 xs) ∧ ∃ ps', DataW.LaidVars P W r ps' := by
  obtain ⟨g', t', cs, fuel, p, q, h1, h2, h3, h4, h5, _⟩ := hL
  rw [hg] at h1; cases h1
  rw [ht] at h2; cases h2
  refine ⟨?_, q, h5⟩
  unfold World.var? at h3
  rw [hg] at h3
  simp only [Option.bind_some] at h3
  split at h3
  · rename_i c T fz hh
    cases h3
    refine ⟨(Array.getElem?_eq_some_iff.1 hh).1, cs, T, fz, hh, ?_⟩
    obtain ⟨ys, m', rfl, hy, hl, hyl, hel⟩ := DataW.trod_array hu h4
    simp only [Prod.mk.injEq, DataW.agg.injEq] at hy
    intro i x hi
    have hxl : xs.length = m := by
      have := congrArg List.length hx
      simp [hy.1, hyl] at this
      omega
    have him : i < m := by rw [← hxl]; exact (List.getElem?_eq_some_iff.1 hi).1
    have he := hel i him
    have hyi : ys[i]? = some (ys[i]'(by omega)) := List.getElem?_eq_getElem (by omega)
    rw [hyi, hc] at he
    obtain ⟨x', h6, h7⟩ := fit_ok k m' e τ _ _ _ hf he
    have hd : (undat τ).1 (ys[i]'(by omega)).1 = some x := by
      have := congrArg (·[i]?) hx
      simp only [List.getElem?_map, hy.1, hyi, hi, Option.map_some] at this
      exact Option.some.inj this
    have := h7 x hd
    subst this
    refine ⟨_, h6, fun j v hj => ?_⟩
    rw [List.getElem?_take] at hj
    split at hj
    · rw [List.getElem?_drop] at hj
      simpa using hj
    · cases hj
  · cases h3
theorem returns_true {G : List (Nat × Sigma fun τ => List (Den τ))} {f : FuncId} {I : Sig} {T : DenS I → Option (DenS [(false, .bool)])} {d : DenS [(false, .bool)]} (hS : Sound P G f (sumOf I [(false, .bool)] T d)) {x : DenS I} (hT : T x = some (true, ())) (hcal : ∃ fn, P.funcs[f]? = some fn ∧ fn.body.isNone = false ∧ (fn.name == "runtime.NumGoroutine") = false) {W : World} {args : Array Value}
    (hG : GlobsOk G W fun q => q < W.heap.size) (ha : SRep W (fun q => q < W.heap.size) I x args.toList []) : Calls P f args W fun e W' => e = .returned (.bool true) ∧ Below W.heap.size W W' := by
  have := hS.calls x (by show (T x).isSome = true; rw [hT]; rfl) W (fun q => q < W.heap.size) args.toList [] (fun q h => h) hG ha List.nodup_nil (fun r h => by simp at h)
  rw [Array.toArray_toList] at this
  have this := this.resolve_right (fun ⟨v, hv, _⟩ => by rw [run_callFunc hcal] at hv; cases hv)
  refine this.2.mono fun e W' ⟨zs, rs', he, hb, _, _, hz⟩ => ⟨?_, ⟨hb.os, hb.tape, hb.output, hb.size, fun k hk => hb.block k hk (fun h => by simp at h)⟩⟩
  obtain ⟨y, ys, r1, r2, rfl, _, ⟨_, h1⟩, rfl, _⟩ := hz
  have h2 : [y] = [Value.bool ((T x).getD d).1] := h1
  rw [hT] at h2
  cases h2
  exact he
/-- what a law's row asks -/
theorem law_post {G : List (Nat × Sigma fun τ => List (Den τ))} {f : FuncId} {fn : Func} {I : Sig} {T : DenS I → Option (DenS [(false, .bool)])} {d : DenS [(false, .bool)]} {s : ChangeSpec} {n : Nat} {tb : TypeId}
    (hS : Sound P G f (sumOf I [(false, .bool)] T d)) (hT : ∀ x, wfS I x → T x = some (true, ())) (hcal : ∃ fn, P.funcs[f]? = some fn ∧ fn.body.isNone = false ∧ (fn.name == "runtime.NumGoroutine") = false) (hlay : laidOutB P = true) (hfit : fitS P n fn.params.toList I = true)
    (hread : (fn.params.toList.all fun t => P.readableRec t && decide (t < P.types.size)) = true) (hres : fn.resultTypes = #[tb]) (hbool : P.underlying tb = some .bool) (hvars : s.vars = [])
    (hspec : ∀ ds : List (DataW H), ds.length = fn.params.toList.length → s.fn H ds = { results := [.lit (.bool true)], args := ds })
    {W : World} {base : Nat} {args : Array Value} {ds gs : List (DataW H)} {before : List MemPlace}
    (hval : ∀ (j : Nat) (t : TypeId) (v : Value), fn.params[j]? = some t → args[j]? = some v → Value.okWide P W .any base t v)
    (hW : DataW.Whole enc P fn.params.toList s.vars false W args.toList ds gs before) (hG : GlobsOk G W fun q => q < W.heap.size) :
    Calls P f args W fun e W' => ∃ v, e = .returned v ∧ ChangeSpec.post enc P fn s false true false false W args v W' := by
  have hW' := hW
  obtain ⟨p, q, hA, hV, rfl, _, _⟩ := hW
  rw [hvars] at hV
  obtain ⟨rfl, rfl⟩ := trodVars_none hV
  obtain ⟨x, hx, hw, hlen⟩ := args_ok (b0 := base) fn.params.toList I args.toList ds p hfit (fun j t v ht hv => hval j t v (by simpa using ht) (by simpa using hv)) hA
  refine (returns_true hS (hT x hw) hcal hG hx).mono fun e W' ⟨he, hb⟩ => ⟨.bool true, he, ds, [], p ++ [], [], p, [], hW', ?_, ?_, ?_, hb.frame _, fun h => by cases h⟩
  · rw [List.append_nil, hspec ds hlen, hres]
    exact trodAll_mk1 (shut_bool hbool true)
  · rw [List.append_nil, hspec ds hlen]
    exact trodAll_below hlay hb _ _ _ _ hread hA fun y hy => by simpa using hW'.lt y (by simpa using hy)
  · rw [List.append_nil, hspec ds hlen, hvars]
    rfl
end
theorem globs_nil {W : World} {S : Nat → Prop} : GlobsOk [] W S := fun _ _ _ h => by simp [findGlob] at h
theorem globs_cons {W : World} {S : Nat → Prop} {g : Nat} {τ : Shape} {xs : List (Den τ)} {G : List (Nat × Sigma fun τ => List (Den τ))} (h : S g ∧ ∃ vs T fz, W.heap[g]? = some (.cells vs T fz) ∧ Rows W S τ vs 0 xs) (r : GlobsOk G W S) :
    GlobsOk ((g, ⟨τ, xs⟩) :: G) W S := fun g' τ' xs' hf => by
  simp only [findGlob] at hf
  cases hb : Nat.beq g g' with
  | true =>
    have := Nat.eq_of_beq_eq_true hb
    subst this
    rw [hb] at hf
    simp only [cond_true, Option.some.injEq] at hf
    cases hf
    exact h
  | false =>
    rw [hb] at hf
    exact r g' τ' xs' hf
end Vx
