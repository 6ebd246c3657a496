/- Part 7 of the proof. What is proved: symbolic execution of the functions, proved sound; what each function of the program computes, and that every run ends with it; what these functions compute, in plain numbers. Conditions: each theorem bears its own. -/
import Derived.Test.YtkkdblemeoehpaaDoorVxG6
import Derived.ProofKit
import Derived.LaidMore
import Derived.OpenShut
import Derived.Stop.Joined
import GoSem.ClaimJoined
set_option linter.all false
set_option exponentiation.threshold 1000000
namespace Vx
open Go Go.Proofs
/-- vernier/vernierlaw06.into -/
abbrev I79 : Sig := [(false, .int .i64), (false, .int .i64)]
abbrev O79 : Sig := [(false, .int .i64)]
noncomputable def t79 (a0 : Den (.int .i64)) (a1 : Den (.int .i64)) : Option (DenS O79) :=
  bif (a1 != (0 : Int)) then
  (bif (a1 != (0 : Int)) then
  (some ((Int.tmod (Go.IntKind.wrap Go.IntKind.i64 ((Int.tmod a0 a1) + a1)) a1), ()))
  else none)
  else none
theorem r79 (a0 : Den (.int .i64)) (a1 : Den (.int .i64)) :
    run { P := Go.Proofs.Tryd.prog, sums := [], loops := [], globs := G1 } 9 79 Go.Proofs.Tryd.f79 I79 O79 (a0, a1, ()) = t79 a0 a1 := by kernel_rfl
noncomputable def T79 (x : DenS I79) : Option (DenS O79) := t79 x.1 x.2.1
noncomputable def C79 : Cfg := { P := Go.Proofs.Tryd.prog, sums := [], loops := [], globs := G1 }
noncomputable def S79 : Sum := sumOf I79 O79 T79 (DenS.dflt O79)
theorem S79_sound : Sound Go.Proofs.Tryd.prog G1 79 S79 :=
  fn_sound C79 9 79 Go.Proofs.Tryd.f79 mixedOk (by kernel_rfl) (by kernel_rfl) (by kernel_rfl) trivial trivial I79 O79 T79 _ fun x => r79 x.1 x.2.1
/-- vernier/vernierlaw06.width -/
abbrev I80 : Sig := [(false, .int .i64)]
abbrev O80 : Sig := [(false, .int .i64)]
noncomputable def t80 (p67 : DenS I67 → Bool) (f67 : DenS I67 → DenS O67) (a0 : Den (.int .i64)) : Option (DenS O80) :=
  bif (p67 (a0, ())) then
  (some ((f67 (a0, ())).1, ()))
  else none
theorem r80 (p67 : DenS I67 → Bool) (f67 : DenS I67 → DenS O67) (a0 : Den (.int .i64)) :
    run { P := Go.Proofs.Tryd.prog, sums := [(67, ⟨I67, O67, p67, f67⟩)], loops := [], globs := G1 } 9 80 Go.Proofs.Tryd.f80 I80 O80 (a0, ()) = t80 p67 f67 a0 := by kernel_rfl
noncomputable def T80 (x : DenS I80) : Option (DenS O80) := t80 S67.pre S67.F x.1
noncomputable def C80 : Cfg := { P := Go.Proofs.Tryd.prog, sums := [(67, S67)], loops := [], globs := G1 }
noncomputable def S80 : Sum := sumOf I80 O80 T80 (DenS.dflt O80)
theorem S80_sound : Sound Go.Proofs.Tryd.prog G1 80 S80 :=
  fn_sound C80 9 80 Go.Proofs.Tryd.f80 mixedOk (by kernel_rfl) (by kernel_rfl) (by kernel_rfl) ⟨S67_sound, trivial⟩ trivial I80 O80 T80 _ fun x => r80 S67.pre S67.F x.1
/-- (vernier/vernierlaw06.Three).right -/
abbrev I29 : Sig := [(true, .pair (.int .i64) (.pair (.int .i64) (.pair (.int .u64) (.pair (.int .u64) (.pair (.int .u64) (.unit))))))]
abbrev O29 : Sig := [(true, .pair (.int .i64) (.pair (.int .i64) (.pair (.int .u64) (.pair (.int .u64) (.pair (.int .u64) (.unit))))))]
noncomputable def t29 (p79 : DenS I79 → Bool) (f79 : DenS I79 → DenS O79) (p80 : DenS I80 → Bool) (f80 : DenS I80 → DenS O80) (a0 : Den (.pair (.int .i64) (.pair (.int .i64) (.pair (.int .u64) (.pair (.int .u64) (.pair (.int .u64) (.unit))))))) : Option (DenS O29) :=
  bif (p79 (a0.1, ((4 : Int), ()))) then
  (bif (p79 (a0.2.1, ((6 : Int), ()))) then
  (bif (p80 (f79 (a0.1, ((4 : Int), ())))) then
  (some (((f79 (a0.1, ((4 : Int), ()))).1, ((f79 (a0.2.1, ((6 : Int), ()))).1, ((Vx.shrI Go.IntKind.u64 (Vx.shlI Go.IntKind.u64 a0.2.2.1 (Go.IntKind.wrap Go.IntKind.u64 (Go.IntKind.wrap Go.IntKind.i64 ((64 : Int) - (f80 (f79 (a0.1, ((4 : Int), ())))).1)))) (Go.IntKind.wrap Go.IntKind.u64 (Go.IntKind.wrap Go.IntKind.i64 ((64 : Int) - (f80 (f79 (a0.1, ((4 : Int), ())))).1)))), ((Vx.shrI Go.IntKind.u64 (Vx.shlI Go.IntKind.u64 a0.2.2.2.1 (Go.IntKind.wrap Go.IntKind.u64 (Go.IntKind.wrap Go.IntKind.i64 ((64 : Int) - (f80 (f79 (a0.1, ((4 : Int), ())))).1)))) (Go.IntKind.wrap Go.IntKind.u64 (Go.IntKind.wrap Go.IntKind.i64 ((64 : Int) - (f80 (f79 (a0.1, ((4 : Int), ())))).1)))), ((Vx.shrI Go.IntKind.u64 (Vx.shlI Go.IntKind.u64 a0.2.2.2.2.1 (Go.IntKind.wrap Go.IntKind.u64 (Go.IntKind.wrap Go.IntKind.i64 ((64 : Int) - (f80 (f79 (a0.1, ((4 : Int), ())))).1)))) (Go.IntKind.wrap Go.IntKind.u64 (Go.IntKind.wrap Go.IntKind.i64 ((64 : Int) - (f80 (f79 (a0.1, ((4 : Int), ())))).1)))), ()))))), ()))
  else none)
  else none)
  else none
theorem r29 (p79 : DenS I79 → Bool) (f79 : DenS I79 → DenS O79) (p80 : DenS I80 → Bool) (f80 : DenS I80 → DenS O80) (a0 : Den (.pair (.int .i64) (.pair (.int .i64) (.pair (.int .u64) (.pair (.int .u64) (.pair (.int .u64) (.unit))))))) :
    run { P := Go.Proofs.Tryd.prog, sums := [(79, ⟨I79, O79, p79, f79⟩), (80, ⟨I80, O80, p80, f80⟩)], loops := [], globs := G1 } 9 29 Go.Proofs.Tryd.f29 I29 O29 (a0, ()) = t29 p79 f79 p80 f80 a0 := by kernel_rfl
noncomputable def T29 (x : DenS I29) : Option (DenS O29) := t29 S79.pre S79.F S80.pre S80.F x.1
noncomputable def C29 : Cfg := { P := Go.Proofs.Tryd.prog, sums := [(79, S79), (80, S80)], loops := [], globs := G1 }
noncomputable def S29 : Sum := sumOf I29 O29 T29 (DenS.dflt O29)
theorem S29_sound : Sound Go.Proofs.Tryd.prog G1 29 S29 :=
  fn_sound C29 9 29 Go.Proofs.Tryd.f29 mixedOk (by kernel_rfl) (by kernel_rfl) (by kernel_rfl) ⟨S79_sound, ⟨S80_sound, trivial⟩⟩ trivial I29 O29 T29 _ fun x => r29 S79.pre S79.F S80.pre S80.F x.1
/-- vernier/vernierlaw06.mirror -/
abbrev I33 : Sig := [(false, .int .i64)]
abbrev O33 : Sig := [(false, .int .i64)]
noncomputable def t33 (a0 : Den (.int .i64)) : Option (DenS O33) :=
  bif (a0 == (3 : Int)) then
  (some ((4 : Int), ()))
  else bif (a0 == (4 : Int)) then
  (some ((3 : Int), ()))
  else some (a0, ())
theorem r33 (a0 : Den (.int .i64)) :
    run { P := Go.Proofs.Tryd.prog, sums := [], loops := [], globs := G1 } 9 33 Go.Proofs.Tryd.f33 I33 O33 (a0, ()) = t33 a0 := by kernel_rfl
noncomputable def T33 (x : DenS I33) : Option (DenS O33) := t33 x.1
noncomputable def C33 : Cfg := { P := Go.Proofs.Tryd.prog, sums := [], loops := [], globs := G1 }
noncomputable def S33 : Sum := sumOf I33 O33 T33 (DenS.dflt O33)
theorem S33_sound : Sound Go.Proofs.Tryd.prog G1 33 S33 :=
  fn_sound C33 9 33 Go.Proofs.Tryd.f33 mixedOk (by kernel_rfl) (by kernel_rfl) (by kernel_rfl) trivial trivial I33 O33 T33 _ fun x => r33 x.1
/-- vernier/vernierlaw06.nan -/
abbrev I34 : Sig := [(false, .int .i64), (false, .int .u64)]
abbrev O34 : Sig := [(false, .bool)]
noncomputable def t34 (p74 : DenS I74 → Bool) (f74 : DenS I74 → DenS O74) (a0 : Den (.int .i64)) (a1 : Den (.int .u64)) : Option (DenS O34) :=
  bif (p74 (a0, (a1, ()))) then
  (some ((f74 (a0, (a1, ()))).1.1, ()))
  else none
theorem r34 (p74 : DenS I74 → Bool) (f74 : DenS I74 → DenS O74) (a0 : Den (.int .i64)) (a1 : Den (.int .u64)) :
    run { P := Go.Proofs.Tryd.prog, sums := [(74, ⟨I74, O74, p74, f74⟩)], loops := [], globs := G1 } 9 34 Go.Proofs.Tryd.f34 I34 O34 (a0, a1, ()) = t34 p74 f74 a0 a1 := by kernel_rfl
noncomputable def T34 (x : DenS I34) : Option (DenS O34) := t34 S74.pre S74.F x.1 x.2.1
noncomputable def C34 : Cfg := { P := Go.Proofs.Tryd.prog, sums := [(74, S74)], loops := [], globs := G1 }
noncomputable def S34 : Sum := sumOf I34 O34 T34 (DenS.dflt O34)
theorem S34_sound : Sound Go.Proofs.Tryd.prog G1 34 S34 :=
  fn_sound C34 9 34 Go.Proofs.Tryd.f34 mixedOk (by kernel_rfl) (by kernel_rfl) (by kernel_rfl) ⟨S74_sound, trivial⟩ trivial I34 O34 T34 _ fun x => r34 S74.pre S74.F x.1 x.2.1
/-- vernier/vernierlaw06.finite -/
abbrev I36 : Sig := [(false, .int .i64), (false, .int .u64)]
abbrev O36 : Sig := [(false, .bool)]
noncomputable def t36 (p74 : DenS I74 → Bool) (f74 : DenS I74 → DenS O74) (a0 : Den (.int .i64)) (a1 : Den (.int .u64)) : Option (DenS O36) :=
  bif (p74 (a0, (a1, ()))) then
  (some (((!(f74 (a0, (a1, ()))).1.1) && (!(f74 (a0, (a1, ()))).1.2.2.1)), ()))
  else none
theorem r36 (p74 : DenS I74 → Bool) (f74 : DenS I74 → DenS O74) (a0 : Den (.int .i64)) (a1 : Den (.int .u64)) :
    run { P := Go.Proofs.Tryd.prog, sums := [(74, ⟨I74, O74, p74, f74⟩)], loops := [], globs := G1 } 9 36 Go.Proofs.Tryd.f36 I36 O36 (a0, a1, ()) = t36 p74 f74 a0 a1 := by kernel_rfl
noncomputable def T36 (x : DenS I36) : Option (DenS O36) := t36 S74.pre S74.F x.1 x.2.1
noncomputable def C36 : Cfg := { P := Go.Proofs.Tryd.prog, sums := [(74, S74)], loops := [], globs := G1 }
noncomputable def S36 : Sum := sumOf I36 O36 T36 (DenS.dflt O36)
theorem S36_sound : Sound Go.Proofs.Tryd.prog G1 36 S36 :=
  fn_sound C36 9 36 Go.Proofs.Tryd.f36 mixedOk (by kernel_rfl) (by kernel_rfl) (by kernel_rfl) ⟨S74_sound, trivial⟩ trivial I36 O36 T36 _ fun x => r36 S74.pre S74.F x.1 x.2.1
/-- vernier/vernierlaw06.sub -/
abbrev I31 : Sig := [(false, .int .i64), (false, .int .i64), (false, .int .u64), (false, .int .u64)]
abbrev O31 : Sig := [(false, .int .u64), (false, .int .i64), (false, .bool)]
noncomputable def t31 (p25 : DenS I25 → Bool) (f25 : DenS I25 → DenS O25) (a0 : Den (.int .i64)) (a1 : Den (.int .i64)) (a2 : Den (.int .u64)) (a3 : Den (.int .u64)) : Option (DenS O31) :=
  bif (p25 (a0, (a1, (a2, (a3, ()))))) then
  (some ((f25 (a0, (a1, (a2, (a3, ()))))).1, ((f25 (a0, (a1, (a2, (a3, ()))))).2.1, (((f25 (a0, (a1, (a2, (a3, ()))))).2.2.1 == (0 : Int)), ()))))
  else none
theorem r31 (p25 : DenS I25 → Bool) (f25 : DenS I25 → DenS O25) (a0 : Den (.int .i64)) (a1 : Den (.int .i64)) (a2 : Den (.int .u64)) (a3 : Den (.int .u64)) :
    run { P := Go.Proofs.Tryd.prog, sums := [(25, ⟨I25, O25, p25, f25⟩)], loops := [], globs := G1 } 9 31 Go.Proofs.Tryd.f31 I31 O31 (a0, a1, a2, a3, ()) = t31 p25 f25 a0 a1 a2 a3 := by kernel_rfl
noncomputable def T31 (x : DenS I31) : Option (DenS O31) := t31 S25.pre S25.F x.1 x.2.1 x.2.2.1 x.2.2.2.1
noncomputable def C31 : Cfg := { P := Go.Proofs.Tryd.prog, sums := [(25, S25)], loops := [], globs := G1 }
noncomputable def S31 : Sum := sumOf I31 O31 T31 (DenS.dflt O31)
theorem S31_sound : Sound Go.Proofs.Tryd.prog G1 31 S31 :=
  fn_sound C31 9 31 Go.Proofs.Tryd.f31 mixedOk (by kernel_rfl) (by kernel_rfl) (by kernel_rfl) ⟨S25_sound, trivial⟩ trivial I31 O31 T31 _ fun x => r31 S25.pre S25.F x.1 x.2.1 x.2.2.1 x.2.2.2.1
/-- vernier/vernierlaw06.rank -/
abbrev I35 : Sig := [(false, .int .i64), (false, .int .u64)]
abbrev O35 : Sig := [(false, .int .i64)]
noncomputable def t35 (p80 : DenS I80 → Bool) (f80 : DenS I80 → DenS O80) (a0 : Den (.int .i64)) (a1 : Den (.int .u64)) : Option (DenS O35) :=
  bif (p80 (a0, ())) then
  (bif (decide (a1 ≥ (Vx.shlI Go.IntKind.u64 (1 : Int) (Go.IntKind.wrap Go.IntKind.u64 (Go.IntKind.wrap Go.IntKind.i64 ((f80 (a0, ())).1 - (1 : Int))))))) then
  (some ((Go.IntKind.wrap Go.IntKind.i64 ((0 : Int) - (Go.IntKind.wrap Go.IntKind.i64 (Go.IntKind.wrap Go.IntKind.u64 (a1 - (Vx.shlI Go.IntKind.u64 (1 : Int) (Go.IntKind.wrap Go.IntKind.u64 (Go.IntKind.wrap Go.IntKind.i64 ((f80 (a0, ())).1 - (1 : Int)))))))))), ()))
  else some ((Go.IntKind.wrap Go.IntKind.i64 a1), ()))
  else none
theorem r35 (p80 : DenS I80 → Bool) (f80 : DenS I80 → DenS O80) (a0 : Den (.int .i64)) (a1 : Den (.int .u64)) :
    run { P := Go.Proofs.Tryd.prog, sums := [(80, ⟨I80, O80, p80, f80⟩)], loops := [], globs := G1 } 9 35 Go.Proofs.Tryd.f35 I35 O35 (a0, a1, ()) = t35 p80 f80 a0 a1 := by kernel_rfl
noncomputable def T35 (x : DenS I35) : Option (DenS O35) := t35 S80.pre S80.F x.1 x.2.1
noncomputable def C35 : Cfg := { P := Go.Proofs.Tryd.prog, sums := [(80, S80)], loops := [], globs := G1 }
noncomputable def S35 : Sum := sumOf I35 O35 T35 (DenS.dflt O35)
theorem S35_sound : Sound Go.Proofs.Tryd.prog G1 35 S35 :=
  fn_sound C35 9 35 Go.Proofs.Tryd.f35 mixedOk (by kernel_rfl) (by kernel_rfl) (by kernel_rfl) ⟨S80_sound, trivial⟩ trivial I35 O35 T35 _ fun x => r35 S80.pre S80.F x.1 x.2.1
/-- vernier/vernierlaw06.add -/
abbrev I30 : Sig := [(false, .int .i64), (false, .int .i64), (false, .int .u64), (false, .int .u64)]
abbrev O30 : Sig := [(false, .int .u64), (false, .int .i64), (false, .bool)]
noncomputable def t30 (p27 : DenS I27 → Bool) (f27 : DenS I27 → DenS O27) (a0 : Den (.int .i64)) (a1 : Den (.int .i64)) (a2 : Den (.int .u64)) (a3 : Den (.int .u64)) : Option (DenS O30) :=
  bif (p27 (a0, (a1, (a2, (a3, ()))))) then
  (some ((f27 (a0, (a1, (a2, (a3, ()))))).1, ((f27 (a0, (a1, (a2, (a3, ()))))).2.1, (((f27 (a0, (a1, (a2, (a3, ()))))).2.2.1 == (0 : Int)), ()))))
  else none
theorem r30 (p27 : DenS I27 → Bool) (f27 : DenS I27 → DenS O27) (a0 : Den (.int .i64)) (a1 : Den (.int .i64)) (a2 : Den (.int .u64)) (a3 : Den (.int .u64)) :
    run { P := Go.Proofs.Tryd.prog, sums := [(27, ⟨I27, O27, p27, f27⟩)], loops := [], globs := G1 } 9 30 Go.Proofs.Tryd.f30 I30 O30 (a0, a1, a2, a3, ()) = t30 p27 f27 a0 a1 a2 a3 := by kernel_rfl
noncomputable def T30 (x : DenS I30) : Option (DenS O30) := t30 S27.pre S27.F x.1 x.2.1 x.2.2.1 x.2.2.2.1
noncomputable def C30 : Cfg := { P := Go.Proofs.Tryd.prog, sums := [(27, S27)], loops := [], globs := G1 }
noncomputable def S30 : Sum := sumOf I30 O30 T30 (DenS.dflt O30)
theorem S30_sound : Sound Go.Proofs.Tryd.prog G1 30 S30 :=
  fn_sound C30 9 30 Go.Proofs.Tryd.f30 mixedOk (by kernel_rfl) (by kernel_rfl) (by kernel_rfl) ⟨S27_sound, trivial⟩ trivial I30 O30 T30 _ fun x => r30 S27.pre S27.F x.1 x.2.1 x.2.2.1 x.2.2.2.1
/-- vernier/vernierlaw06.AddsubLaws -/
abbrev I7 : Sig := [(true, .pair (.int .i64) (.pair (.int .i64) (.pair (.int .u64) (.pair (.int .u64) (.pair (.int .u64) (.unit))))))]
abbrev O7 : Sig := [(false, .bool)]
noncomputable def t7 (p24 : DenS I24 → Bool) (f24 : DenS I24 → DenS O24) (p29 : DenS I29 → Bool) (f29 : DenS I29 → DenS O29) (p32 : DenS I32 → Bool) (f32 : DenS I32 → DenS O32) (p33 : DenS I33 → Bool) (f33 : DenS I33 → DenS O33) (p34 : DenS I34 → Bool) (f34 : DenS I34 → DenS O34) (p36 : DenS I36 → Bool) (f36 : DenS I36 → DenS O36) (p31 : DenS I31 → Bool) (f31 : DenS I31 → DenS O31) (p35 : DenS I35 → Bool) (f35 : DenS I35 → DenS O35) (p37 : DenS I37 → Bool) (f37 : DenS I37 → DenS O37) (p30 : DenS I30 → Bool) (f30 : DenS I30 → DenS O30) (a0 : Den (.pair (.int .i64) (.pair (.int .i64) (.pair (.int .u64) (.pair (.int .u64) (.pair (.int .u64) (.unit))))))) : Option (DenS O7) :=
  bif (p24 ()) then
  (bif (!(f24 ()).1) then
  (some (false, ()))
  else bif (p29 ((a0.1, a0.2), ())) then
  (bif (p30 ((f29 ((a0.1, a0.2), ())).1.1, ((f29 ((a0.1, a0.2), ())).1.2.1, ((f29 ((a0.1, a0.2), ())).1.2.2.1, ((f29 ((a0.1, a0.2), ())).1.2.2.2.1, ()))))) then
  (bif (p30 ((f29 ((a0.1, a0.2), ())).1.1, ((f29 ((a0.1, a0.2), ())).1.2.1, ((f29 ((a0.1, a0.2), ())).1.2.2.2.1, ((f29 ((a0.1, a0.2), ())).1.2.2.1, ()))))) then
  (bif ((((!(f30 ((f29 ((a0.1, a0.2), ())).1.1, ((f29 ((a0.1, a0.2), ())).1.2.1, ((f29 ((a0.1, a0.2), ())).1.2.2.1, ((f29 ((a0.1, a0.2), ())).1.2.2.2.1, ()))))).2.2.1) || (!(f30 ((f29 ((a0.1, a0.2), ())).1.1, ((f29 ((a0.1, a0.2), ())).1.2.1, ((f29 ((a0.1, a0.2), ())).1.2.2.2.1, ((f29 ((a0.1, a0.2), ())).1.2.2.1, ()))))).2.2.1)) || ((f30 ((f29 ((a0.1, a0.2), ())).1.1, ((f29 ((a0.1, a0.2), ())).1.2.1, ((f29 ((a0.1, a0.2), ())).1.2.2.1, ((f29 ((a0.1, a0.2), ())).1.2.2.2.1, ()))))).1 != (f30 ((f29 ((a0.1, a0.2), ())).1.1, ((f29 ((a0.1, a0.2), ())).1.2.1, ((f29 ((a0.1, a0.2), ())).1.2.2.2.1, ((f29 ((a0.1, a0.2), ())).1.2.2.1, ()))))).1)) || ((f30 ((f29 ((a0.1, a0.2), ())).1.1, ((f29 ((a0.1, a0.2), ())).1.2.1, ((f29 ((a0.1, a0.2), ())).1.2.2.1, ((f29 ((a0.1, a0.2), ())).1.2.2.2.1, ()))))).2.1 != (f30 ((f29 ((a0.1, a0.2), ())).1.1, ((f29 ((a0.1, a0.2), ())).1.2.1, ((f29 ((a0.1, a0.2), ())).1.2.2.2.1, ((f29 ((a0.1, a0.2), ())).1.2.2.1, ()))))).2.1)) then
  (some (false, ()))
  else bif (p31 ((f29 ((a0.1, a0.2), ())).1.1, ((f29 ((a0.1, a0.2), ())).1.2.1, ((f29 ((a0.1, a0.2), ())).1.2.2.1, ((f29 ((a0.1, a0.2), ())).1.2.2.2.1, ()))))) then
  (bif (p32 ((f29 ((a0.1, a0.2), ())).1.1, ((f29 ((a0.1, a0.2), ())).1.2.2.2.1, ()))) then
  (bif (p30 ((f29 ((a0.1, a0.2), ())).1.1, ((f29 ((a0.1, a0.2), ())).1.2.1, ((f29 ((a0.1, a0.2), ())).1.2.2.1, (f32 ((f29 ((a0.1, a0.2), ())).1.1, ((f29 ((a0.1, a0.2), ())).1.2.2.2.1, ()))))))) then
  (bif ((((!(f31 ((f29 ((a0.1, a0.2), ())).1.1, ((f29 ((a0.1, a0.2), ())).1.2.1, ((f29 ((a0.1, a0.2), ())).1.2.2.1, ((f29 ((a0.1, a0.2), ())).1.2.2.2.1, ()))))).2.2.1) || (!(f30 ((f29 ((a0.1, a0.2), ())).1.1, ((f29 ((a0.1, a0.2), ())).1.2.1, ((f29 ((a0.1, a0.2), ())).1.2.2.1, (f32 ((f29 ((a0.1, a0.2), ())).1.1, ((f29 ((a0.1, a0.2), ())).1.2.2.2.1, ()))))))).2.2.1)) || ((f31 ((f29 ((a0.1, a0.2), ())).1.1, ((f29 ((a0.1, a0.2), ())).1.2.1, ((f29 ((a0.1, a0.2), ())).1.2.2.1, ((f29 ((a0.1, a0.2), ())).1.2.2.2.1, ()))))).1 != (f30 ((f29 ((a0.1, a0.2), ())).1.1, ((f29 ((a0.1, a0.2), ())).1.2.1, ((f29 ((a0.1, a0.2), ())).1.2.2.1, (f32 ((f29 ((a0.1, a0.2), ())).1.1, ((f29 ((a0.1, a0.2), ())).1.2.2.2.1, ()))))))).1)) || ((f31 ((f29 ((a0.1, a0.2), ())).1.1, ((f29 ((a0.1, a0.2), ())).1.2.1, ((f29 ((a0.1, a0.2), ())).1.2.2.1, ((f29 ((a0.1, a0.2), ())).1.2.2.2.1, ()))))).2.1 != (f30 ((f29 ((a0.1, a0.2), ())).1.1, ((f29 ((a0.1, a0.2), ())).1.2.1, ((f29 ((a0.1, a0.2), ())).1.2.2.1, (f32 ((f29 ((a0.1, a0.2), ())).1.1, ((f29 ((a0.1, a0.2), ())).1.2.2.2.1, ()))))))).2.1)) then
  (some (false, ()))
  else bif (p33 ((f29 ((a0.1, a0.2), ())).1.2.1, ())) then
  (bif (p31 ((f29 ((a0.1, a0.2), ())).1.1, ((f33 ((f29 ((a0.1, a0.2), ())).1.2.1, ())).1, ((f29 ((a0.1, a0.2), ())).1.2.2.2.1, ((f29 ((a0.1, a0.2), ())).1.2.2.1, ()))))) then
  (bif ((!(f31 ((f29 ((a0.1, a0.2), ())).1.1, ((f33 ((f29 ((a0.1, a0.2), ())).1.2.1, ())).1, ((f29 ((a0.1, a0.2), ())).1.2.2.2.1, ((f29 ((a0.1, a0.2), ())).1.2.2.1, ()))))).2.2.1) || ((f31 ((f29 ((a0.1, a0.2), ())).1.1, ((f29 ((a0.1, a0.2), ())).1.2.1, ((f29 ((a0.1, a0.2), ())).1.2.2.1, ((f29 ((a0.1, a0.2), ())).1.2.2.2.1, ()))))).2.1 != (f31 ((f29 ((a0.1, a0.2), ())).1.1, ((f33 ((f29 ((a0.1, a0.2), ())).1.2.1, ())).1, ((f29 ((a0.1, a0.2), ())).1.2.2.2.1, ((f29 ((a0.1, a0.2), ())).1.2.2.1, ()))))).2.1)) then
  (some (false, ()))
  else bif (p34 ((f29 ((a0.1, a0.2), ())).1.1, ((f31 ((f29 ((a0.1, a0.2), ())).1.1, ((f29 ((a0.1, a0.2), ())).1.2.1, ((f29 ((a0.1, a0.2), ())).1.2.2.1, ((f29 ((a0.1, a0.2), ())).1.2.2.2.1, ()))))).1, ()))) then
  (bif ((p35 ((f29 ((a0.1, a0.2), ())).1.1, ((f31 ((f29 ((a0.1, a0.2), ())).1.1, ((f29 ((a0.1, a0.2), ())).1.2.1, ((f29 ((a0.1, a0.2), ())).1.2.2.1, ((f29 ((a0.1, a0.2), ())).1.2.2.2.1, ()))))).1, ()))) || (!(bif (f34 ((f29 ((a0.1, a0.2), ())).1.1, ((f31 ((f29 ((a0.1, a0.2), ())).1.1, ((f29 ((a0.1, a0.2), ())).1.2.1, ((f29 ((a0.1, a0.2), ())).1.2.2.1, ((f29 ((a0.1, a0.2), ())).1.2.2.2.1, ()))))).1, ()))).1 then false else true))) then
  (bif ((p35 ((f29 ((a0.1, a0.2), ())).1.1, ((f31 ((f29 ((a0.1, a0.2), ())).1.1, ((f33 ((f29 ((a0.1, a0.2), ())).1.2.1, ())).1, ((f29 ((a0.1, a0.2), ())).1.2.2.2.1, ((f29 ((a0.1, a0.2), ())).1.2.2.1, ()))))).1, ()))) || (!(bif (f34 ((f29 ((a0.1, a0.2), ())).1.1, ((f31 ((f29 ((a0.1, a0.2), ())).1.1, ((f29 ((a0.1, a0.2), ())).1.2.1, ((f29 ((a0.1, a0.2), ())).1.2.2.1, ((f29 ((a0.1, a0.2), ())).1.2.2.2.1, ()))))).1, ()))).1 then false else true))) then
  (bif ((p34 ((f29 ((a0.1, a0.2), ())).1.1, ((f31 ((f29 ((a0.1, a0.2), ())).1.1, ((f29 ((a0.1, a0.2), ())).1.2.1, ((f29 ((a0.1, a0.2), ())).1.2.2.1, ((f29 ((a0.1, a0.2), ())).1.2.2.2.1, ()))))).1, ()))) || (!(bif ((!(f34 ((f29 ((a0.1, a0.2), ())).1.1, ((f31 ((f29 ((a0.1, a0.2), ())).1.1, ((f29 ((a0.1, a0.2), ())).1.2.1, ((f29 ((a0.1, a0.2), ())).1.2.2.1, ((f29 ((a0.1, a0.2), ())).1.2.2.2.1, ()))))).1, ()))).1) && ((f35 ((f29 ((a0.1, a0.2), ())).1.1, ((f31 ((f29 ((a0.1, a0.2), ())).1.1, ((f29 ((a0.1, a0.2), ())).1.2.1, ((f29 ((a0.1, a0.2), ())).1.2.2.1, ((f29 ((a0.1, a0.2), ())).1.2.2.2.1, ()))))).1, ()))).1 != (Go.IntKind.wrap Go.IntKind.i64 ((0 : Int) - (f35 ((f29 ((a0.1, a0.2), ())).1.1, ((f31 ((f29 ((a0.1, a0.2), ())).1.1, ((f33 ((f29 ((a0.1, a0.2), ())).1.2.1, ())).1, ((f29 ((a0.1, a0.2), ())).1.2.2.2.1, ((f29 ((a0.1, a0.2), ())).1.2.2.1, ()))))).1, ()))).1)))) then false else true))) then
  (bif ((p34 ((f29 ((a0.1, a0.2), ())).1.1, ((f31 ((f29 ((a0.1, a0.2), ())).1.1, ((f33 ((f29 ((a0.1, a0.2), ())).1.2.1, ())).1, ((f29 ((a0.1, a0.2), ())).1.2.2.2.1, ((f29 ((a0.1, a0.2), ())).1.2.2.1, ()))))).1, ()))) || (!(bif ((!(f34 ((f29 ((a0.1, a0.2), ())).1.1, ((f31 ((f29 ((a0.1, a0.2), ())).1.1, ((f29 ((a0.1, a0.2), ())).1.2.1, ((f29 ((a0.1, a0.2), ())).1.2.2.1, ((f29 ((a0.1, a0.2), ())).1.2.2.2.1, ()))))).1, ()))).1) && ((f35 ((f29 ((a0.1, a0.2), ())).1.1, ((f31 ((f29 ((a0.1, a0.2), ())).1.1, ((f29 ((a0.1, a0.2), ())).1.2.1, ((f29 ((a0.1, a0.2), ())).1.2.2.1, ((f29 ((a0.1, a0.2), ())).1.2.2.2.1, ()))))).1, ()))).1 != (Go.IntKind.wrap Go.IntKind.i64 ((0 : Int) - (f35 ((f29 ((a0.1, a0.2), ())).1.1, ((f31 ((f29 ((a0.1, a0.2), ())).1.1, ((f33 ((f29 ((a0.1, a0.2), ())).1.2.1, ())).1, ((f29 ((a0.1, a0.2), ())).1.2.2.2.1, ((f29 ((a0.1, a0.2), ())).1.2.2.1, ()))))).1, ()))).1)))) then false else true))) then
  (bif (((!(f34 ((f29 ((a0.1, a0.2), ())).1.1, ((f31 ((f29 ((a0.1, a0.2), ())).1.1, ((f29 ((a0.1, a0.2), ())).1.2.1, ((f29 ((a0.1, a0.2), ())).1.2.2.1, ((f29 ((a0.1, a0.2), ())).1.2.2.2.1, ()))))).1, ()))).1) && ((f35 ((f29 ((a0.1, a0.2), ())).1.1, ((f31 ((f29 ((a0.1, a0.2), ())).1.1, ((f29 ((a0.1, a0.2), ())).1.2.1, ((f29 ((a0.1, a0.2), ())).1.2.2.1, ((f29 ((a0.1, a0.2), ())).1.2.2.2.1, ()))))).1, ()))).1 != (Go.IntKind.wrap Go.IntKind.i64 ((0 : Int) - (f35 ((f29 ((a0.1, a0.2), ())).1.1, ((f31 ((f29 ((a0.1, a0.2), ())).1.1, ((f33 ((f29 ((a0.1, a0.2), ())).1.2.1, ())).1, ((f29 ((a0.1, a0.2), ())).1.2.2.2.1, ((f29 ((a0.1, a0.2), ())).1.2.2.1, ()))))).1, ()))).1)))) || (!((f34 ((f29 ((a0.1, a0.2), ())).1.1, ((f31 ((f29 ((a0.1, a0.2), ())).1.1, ((f29 ((a0.1, a0.2), ())).1.2.1, ((f29 ((a0.1, a0.2), ())).1.2.2.1, ((f29 ((a0.1, a0.2), ())).1.2.2.2.1, ()))))).1, ()))).1 == (f34 ((f29 ((a0.1, a0.2), ())).1.1, ((f31 ((f29 ((a0.1, a0.2), ())).1.1, ((f33 ((f29 ((a0.1, a0.2), ())).1.2.1, ())).1, ((f29 ((a0.1, a0.2), ())).1.2.2.2.1, ((f29 ((a0.1, a0.2), ())).1.2.2.1, ()))))).1, ()))).1))) then
  (some (false, ()))
  else bif (p36 ((f29 ((a0.1, a0.2), ())).1.1, ((f29 ((a0.1, a0.2), ())).1.2.2.1, ()))) then
  (bif (!(f36 ((f29 ((a0.1, a0.2), ())).1.1, ((f29 ((a0.1, a0.2), ())).1.2.2.1, ()))).1) then
  (some (true, ()))
  else bif (p31 ((f29 ((a0.1, a0.2), ())).1.1, ((f29 ((a0.1, a0.2), ())).1.2.1, ((f29 ((a0.1, a0.2), ())).1.2.2.1, ((f29 ((a0.1, a0.2), ())).1.2.2.1, ()))))) then
  (bif ((p37 ((f29 ((a0.1, a0.2), ())).1.1, (((f29 ((a0.1, a0.2), ())).1.2.1 == (4 : Int)), ()))) || (!(bif ((!(f31 ((f29 ((a0.1, a0.2), ())).1.1, ((f29 ((a0.1, a0.2), ())).1.2.1, ((f29 ((a0.1, a0.2), ())).1.2.2.1, ((f29 ((a0.1, a0.2), ())).1.2.2.1, ()))))).2.2.1) || ((f31 ((f29 ((a0.1, a0.2), ())).1.1, ((f29 ((a0.1, a0.2), ())).1.2.1, ((f29 ((a0.1, a0.2), ())).1.2.2.1, ((f29 ((a0.1, a0.2), ())).1.2.2.1, ()))))).2.1 != (0 : Int))) then false else true))) then
  (bif (((!(f31 ((f29 ((a0.1, a0.2), ())).1.1, ((f29 ((a0.1, a0.2), ())).1.2.1, ((f29 ((a0.1, a0.2), ())).1.2.2.1, ((f29 ((a0.1, a0.2), ())).1.2.2.1, ()))))).2.2.1) || ((f31 ((f29 ((a0.1, a0.2), ())).1.1, ((f29 ((a0.1, a0.2), ())).1.2.1, ((f29 ((a0.1, a0.2), ())).1.2.2.1, ((f29 ((a0.1, a0.2), ())).1.2.2.1, ()))))).2.1 != (0 : Int))) || ((f31 ((f29 ((a0.1, a0.2), ())).1.1, ((f29 ((a0.1, a0.2), ())).1.2.1, ((f29 ((a0.1, a0.2), ())).1.2.2.1, ((f29 ((a0.1, a0.2), ())).1.2.2.1, ()))))).1 != (f37 ((f29 ((a0.1, a0.2), ())).1.1, (((f29 ((a0.1, a0.2), ())).1.2.1 == (4 : Int)), ()))).1)) then
  (some (false, ()))
  else bif (p35 ((f29 ((a0.1, a0.2), ())).1.1, ((f29 ((a0.1, a0.2), ())).1.2.2.1, ()))) then
  (bif ((f35 ((f29 ((a0.1, a0.2), ())).1.1, ((f29 ((a0.1, a0.2), ())).1.2.2.1, ()))).1 == (0 : Int)) then
  (some (true, ()))
  else bif (p37 ((f29 ((a0.1, a0.2), ())).1.1, (((Int.tmod (f29 ((a0.1, a0.2), ())).1.2.2.2.1 (2 : Int)) == (1 : Int)), ()))) then
  (bif (p30 ((f29 ((a0.1, a0.2), ())).1.1, ((f29 ((a0.1, a0.2), ())).1.2.1, ((f29 ((a0.1, a0.2), ())).1.2.2.1, (f37 ((f29 ((a0.1, a0.2), ())).1.1, (((Int.tmod (f29 ((a0.1, a0.2), ())).1.2.2.2.1 (2 : Int)) == (1 : Int)), ()))))))) then
  (some ((((f30 ((f29 ((a0.1, a0.2), ())).1.1, ((f29 ((a0.1, a0.2), ())).1.2.1, ((f29 ((a0.1, a0.2), ())).1.2.2.1, (f37 ((f29 ((a0.1, a0.2), ())).1.1, (((Int.tmod (f29 ((a0.1, a0.2), ())).1.2.2.2.1 (2 : Int)) == (1 : Int)), ()))))))).2.2.1 && ((f30 ((f29 ((a0.1, a0.2), ())).1.1, ((f29 ((a0.1, a0.2), ())).1.2.1, ((f29 ((a0.1, a0.2), ())).1.2.2.1, (f37 ((f29 ((a0.1, a0.2), ())).1.1, (((Int.tmod (f29 ((a0.1, a0.2), ())).1.2.2.2.1 (2 : Int)) == (1 : Int)), ()))))))).2.1 == (0 : Int))) && ((f30 ((f29 ((a0.1, a0.2), ())).1.1, ((f29 ((a0.1, a0.2), ())).1.2.1, ((f29 ((a0.1, a0.2), ())).1.2.2.1, (f37 ((f29 ((a0.1, a0.2), ())).1.1, (((Int.tmod (f29 ((a0.1, a0.2), ())).1.2.2.2.1 (2 : Int)) == (1 : Int)), ()))))))).1 == (f29 ((a0.1, a0.2), ())).1.2.2.1)), ()))
  else none)
  else none)
  else none)
  else none)
  else none)
  else none)
  else none)
  else none)
  else none)
  else none)
  else none)
  else none)
  else none)
  else none)
  else none)
  else none)
  else none)
  else none)
  else none)
  else none
theorem r7 (p24 : DenS I24 → Bool) (f24 : DenS I24 → DenS O24) (p29 : DenS I29 → Bool) (f29 : DenS I29 → DenS O29) (p32 : DenS I32 → Bool) (f32 : DenS I32 → DenS O32) (p33 : DenS I33 → Bool) (f33 : DenS I33 → DenS O33) (p34 : DenS I34 → Bool) (f34 : DenS I34 → DenS O34) (p36 : DenS I36 → Bool) (f36 : DenS I36 → DenS O36) (p31 : DenS I31 → Bool) (f31 : DenS I31 → DenS O31) (p35 : DenS I35 → Bool) (f35 : DenS I35 → DenS O35) (p37 : DenS I37 → Bool) (f37 : DenS I37 → DenS O37) (p30 : DenS I30 → Bool) (f30 : DenS I30 → DenS O30) (a0 : Den (.pair (.int .i64) (.pair (.int .i64) (.pair (.int .u64) (.pair (.int .u64) (.pair (.int .u64) (.unit))))))) :
    run { P := Go.Proofs.Tryd.prog, sums := [(24, ⟨I24, O24, p24, f24⟩), (29, ⟨I29, O29, p29, f29⟩), (32, ⟨I32, O32, p32, f32⟩), (33, ⟨I33, O33, p33, f33⟩), (34, ⟨I34, O34, p34, f34⟩), (36, ⟨I36, O36, p36, f36⟩), (31, ⟨I31, O31, p31, f31⟩), (35, ⟨I35, O35, p35, f35⟩), (37, ⟨I37, O37, p37, f37⟩), (30, ⟨I30, O30, p30, f30⟩)], loops := [], globs := G1 } 9 7 Go.Proofs.Tryd.f7 I7 O7 (a0, ()) = t7 p24 f24 p29 f29 p32 f32 p33 f33 p34 f34 p36 f36 p31 f31 p35 f35 p37 f37 p30 f30 a0 := by kernel_rfl
noncomputable def T7 (x : DenS I7) : Option (DenS O7) := t7 S24.pre S24.F S29.pre S29.F S32.pre S32.F S33.pre S33.F S34.pre S34.F S36.pre S36.F S31.pre S31.F S35.pre S35.F S37.pre S37.F S30.pre S30.F x.1
noncomputable def C7 : Cfg := { P := Go.Proofs.Tryd.prog, sums := [(24, S24), (29, S29), (32, S32), (33, S33), (34, S34), (36, S36), (31, S31), (35, S35), (37, S37), (30, S30)], loops := [], globs := G1 }
noncomputable def S7 : Sum := sumOf I7 O7 T7 (DenS.dflt O7)
theorem S7_sound : Sound Go.Proofs.Tryd.prog G1 7 S7 :=
  fn_sound C7 9 7 Go.Proofs.Tryd.f7 mixedOk (by kernel_rfl) (by kernel_rfl) (by kernel_rfl) ⟨S24_sound, ⟨S29_sound, ⟨S32_sound, ⟨S33_sound, ⟨S34_sound, ⟨S36_sound, ⟨S31_sound, ⟨S35_sound, ⟨S37_sound, ⟨S30_sound, trivial⟩⟩⟩⟩⟩⟩⟩⟩⟩⟩ trivial I7 O7 T7 _ fun x => r7 S24.pre S24.F S29.pre S29.F S32.pre S32.F S33.pre S33.F S34.pre S34.F S36.pre S36.F S31.pre S31.F S35.pre S35.F S37.pre S37.F S30.pre S30.F x.1
end Vx
namespace Vx
open Go
theorem pre79 {x : DenS I79} {y : DenS O79} (h : T79 x = some y) : S79.pre x = true := sum_pre (T := T79) h
theorem fun79 {x : DenS I79} {y : DenS O79} (h : T79 x = some y) : S79.F x = y := sum_F (T := T79) h
theorem pre80 {x : DenS I80} {y : DenS O80} (h : T80 x = some y) : S80.pre x = true := sum_pre (T := T80) h
theorem fun80 {x : DenS I80} {y : DenS O80} (h : T80 x = some y) : S80.F x = y := sum_F (T := T80) h
theorem pre29 {x : DenS I29} {y : DenS O29} (h : T29 x = some y) : S29.pre x = true := sum_pre (T := T29) h
theorem fun29 {x : DenS I29} {y : DenS O29} (h : T29 x = some y) : S29.F x = y := sum_F (T := T29) h
theorem pre33 {x : DenS I33} {y : DenS O33} (h : T33 x = some y) : S33.pre x = true := sum_pre (T := T33) h
theorem fun33 {x : DenS I33} {y : DenS O33} (h : T33 x = some y) : S33.F x = y := sum_F (T := T33) h
theorem pre34 {x : DenS I34} {y : DenS O34} (h : T34 x = some y) : S34.pre x = true := sum_pre (T := T34) h
theorem fun34 {x : DenS I34} {y : DenS O34} (h : T34 x = some y) : S34.F x = y := sum_F (T := T34) h
theorem pre36 {x : DenS I36} {y : DenS O36} (h : T36 x = some y) : S36.pre x = true := sum_pre (T := T36) h
theorem fun36 {x : DenS I36} {y : DenS O36} (h : T36 x = some y) : S36.F x = y := sum_F (T := T36) h
theorem pre31 {x : DenS I31} {y : DenS O31} (h : T31 x = some y) : S31.pre x = true := sum_pre (T := T31) h
theorem fun31 {x : DenS I31} {y : DenS O31} (h : T31 x = some y) : S31.F x = y := sum_F (T := T31) h
theorem pre35 {x : DenS I35} {y : DenS O35} (h : T35 x = some y) : S35.pre x = true := sum_pre (T := T35) h
theorem fun35 {x : DenS I35} {y : DenS O35} (h : T35 x = some y) : S35.F x = y := sum_F (T := T35) h
theorem pre30 {x : DenS I30} {y : DenS O30} (h : T30 x = some y) : S30.pre x = true := sum_pre (T := T30) h
theorem fun30 {x : DenS I30} {y : DenS O30} (h : T30 x = some y) : S30.F x = y := sum_F (T := T30) h
end Vx
namespace VL
open Go Vx
theorem T79_in (n : Int) {w : Nat} (hw : 0 < w ∧ w < 100) : ∃ k : Nat, k < w ∧ T79 (n, (w : Int), ()) = some ((k : Int), ()) := by
  have hne : ((w : Int) != 0) = true := bne0_t _ (by omega)
  have ht : ∃ r : Int, Int.tmod n (w : Int) = r ∧ -(w : Int) < r ∧ r < (w : Int) := by
    rcases n with k | k
    · have e : Int.tmod (Int.ofNat k) (w : Int) = ((k % w : Nat) : Int) := rfl
      have := Nat.mod_lt k hw.1
      exact ⟨_, e, by omega, by omega⟩
    · have e : Int.tmod (Int.negSucc k) (w : Int) = -(((k + 1) % w : Nat) : Int) := rfl
      have := Nat.mod_lt (k + 1) hw.1
      exact ⟨_, e, by omega, by omega⟩
  obtain ⟨r, h1, h2, h3⟩ := ht
  obtain ⟨u, hu⟩ := Int.eq_ofNat_of_zero_le (show 0 ≤ r + (w : Int) by omega)
  refine ⟨u % w, Nat.mod_lt _ hw.1, ?_⟩
  show t79 n (w : Int) = _
  unfold t79
  rw [hne, cond_true, cond_true, h1, wrapI (by omega), hu]
  rfl
theorem T80_ok {f : Int} (hf : Fm f) : T80 (f, ()) = some ((fW f : Int), ()) := by
  show t80 S67.pre S67.F f = _
  unfold t80
  have p0 := T67_ok hf
  simp only [pre67 p0, fun67 p0, cond_true]
theorem cut_width {A W : Nat} (hW : W ≤ 64) : A * 2 ^ (64 - W) % 2 ^ 64 / 2 ^ (64 - W) = A % 2 ^ W := by
  have e : 2 ^ 64 = 2 ^ W * 2 ^ (64 - W) := by rw [← Nat.pow_add]; congr 1; omega
  rw [e, Nat.mul_mod_mul_right, Nat.mul_div_cancel _ (Nat.two_pow_pos _)]
theorem chk_mod {f : Int} (hf : Fm f) (A : Nat) : chk f (A % 2 ^ fW f) = 0 := chk_ok hf (Nat.mod_lt _ (Nat.two_pow_pos _))
theorem T29_ok (F M : Int) (A B C : Nat) : ∃ (f m : Int) (a b c : Nat), Fm f ∧ (0 ≤ m ∧ m ≤ 5) ∧ chk f a = 0 ∧ chk f b = 0 ∧ chk f c = 0 ∧
    T29 ((F, M, (A : Int), (B : Int), (C : Int), ()), ()) = some ((f, m, (a : Int), (b : Int), (c : Int), ()), ()) := by
  obtain ⟨f, hf, p1⟩ := T79_in F (w := 4) (by decide)
  obtain ⟨m, hm, p2⟩ := T79_in M (w := 6) (by decide)
  have hfm : Fm (f : Int) := ⟨by omega, by omega⟩
  have p3 := T80_ok hfm
  have hW := fW_le hfm
  refine ⟨f, m, A % 2 ^ fW f, B % 2 ^ fW f, C % 2 ^ fW f, hfm, ⟨by omega, by omega⟩, chk_mod hfm _, chk_mod hfm _, chk_mod hfm _, ?_⟩
  show t29 S79.pre S79.F S80.pre S80.F (F, M, (A : Int), (B : Int), (C : Int), ()) = _
  unfold t29
  have e1 : IntKind.wrap .u64 (IntKind.wrap .i64 (64 - (fW f : Int))) = ((64 - fW f : Nat) : Int) := by
    rw [wrapI (by omega), wrapU (by omega)]; omega
  have e2 : ∀ x : Nat, shrI .u64 (shlI .u64 (x : Int) ((64 - fW f : Nat) : Int)) ((64 - fW f : Nat) : Int) = ((x % 2 ^ fW f : Nat) : Int) := fun x => by
    rw [shlN _ _ (by omega), shrN _ _ (by omega), cut_width hW]
  rw [show ((4 : Nat) : Int) = 4 from rfl] at p1
  rw [show ((6 : Nat) : Int) = 6 from rfl] at p2
  simp only [pre79 p1, fun79 p1, pre79 p2, fun79 p2, pre80 p3, fun80 p3, cond_true, e1, e2]
theorem T33_eq (m : Int) : T33 (m, ()) = some (mir m, ()) := by
  show t33 m = _
  unfold t33 mir
  by_cases h : m = 3
  · subst h; rfl
  · rw [ibeq_f m 3 h, cond_false, if_neg h]
    by_cases h : m = 4
    · subst h; rfl
    · rw [ibeq_f m 4 h, cond_false, if_neg h]
theorem T34_eq {f : Int} (hf : Fm f) {a : Nat} (h : chk f a = 0) : T34 (f, (a : Int), ()) = some (nan f a, ()) := by
  show t34 S74.pre S74.F f a = _
  unfold t34
  have p0 := T74_eq hf h
  by_cases hz : eF f a = fullF f
  · rw [if_pos hz] at p0
    simp only [pre74 p0, fun74 p0, cond_true]
    rw [(full_vals hz).1]; rfl
  · rw [if_neg hz] at p0
    simp only [pre74 p0, fun74 p0, cond_true]
    rw [(part_vals hz).1]
theorem T36_eq {f : Int} (hf : Fm f) {a : Nat} (h : chk f a = 0) : T36 (f, (a : Int), ()) = some (decide (eF f a ≠ fullF f), ()) := by
  show t36 S74.pre S74.F f a = _
  unfold t36
  have p0 := T74_eq hf h
  by_cases hz : eF f a = fullF f
  · rw [if_pos hz] at p0
    simp only [pre74 p0, fun74 p0, cond_true]
    rw [decide_eq_false (fun hh => hh hz), bne]
    cases mF f a == 0 <;> rfl
  · rw [if_neg hz] at p0
    simp only [pre74 p0, fun74 p0, cond_true]
    rw [decide_eq_true hz]; rfl
theorem T35_eq {f : Int} (hf : Fm f) {a : Nat} (h : chk f a = 0) : T35 (f, (a : Int), ()) = some (place f a, ()) := by
  show t35 S80.pre S80.F f a = _
  unfold t35
  have p0 := T80_ok hf
  have h2 := fP_lt hf
  have h3 := fW_le hf
  have hal := abs_lt' (f := f) a
  have hpat := pat_mk h
  have hW1 : 2 ^ (fW f - 1) ≤ 2 ^ 63 := Nat.pow_le_pow_right (by decide) (by omega)
  have e1 : IntKind.wrap .u64 (IntKind.wrap .i64 ((fW f : Int) - 1)) = ((fW f - 1 : Nat) : Int) := by rw [wsub1 _ (by omega), wu_id _ (by omega)]
  have e2 : shlI .u64 1 ((fW f - 1 : Nat) : Int) = ((2 ^ (fW f - 1) : Nat) : Int) := shlI_one (by omega)
  simp only [pre80 p0, fun80 p0, cond_true, e1, e2]
  unfold place
  unfold mkF at hpat
  cases hs : sF f a with
  | false =>
    rw [hs, cond_false, Nat.add_zero] at hpat
    rw [ige_f _ _ (by omega), cond_false, cond_false, wrapI (by omega), ← hpat]
  | true =>
    rw [hs, cond_true] at hpat
    rw [ige_t _ _ (by omega), cond_true, cond_true, wu_sub _ _ (by have := pat_lt h; omega), show a - 2 ^ (fW f - 1) = absF f a by omega, wrapI (n := (absF f a : Int)) (by omega), wrapI (by omega)]
    rw [Int.zero_sub]
/-- a sum's bits and flags, in naturals -/
def addN (f m : Int) (a b : Nat) : Nat × Nat :=
  bif snan f a || snan f b then (nanF f, 1)
  else bif nan f a || nan f b then (nanF f, 0)
  else bif (isInf f a && isInf f b) && !(sF f a == sF f b) then (nanF f, 1)
  else bif isInf f a then (a, 0)
  else bif isInf f b then (b, 0)
  else sumBits f m (sF f a) (mant f a) (xpn f a) (sF f b) (mant f b) (xpn f b)
theorem addR_N (f m : Int) (a b : Nat) : addR f m a b = (((addN f m a b).1 : Int), ((addN f m a b).2 : Int), 0, ()) := by
  unfold addR addN
  cases snan f a || snan f b <;> cases nan f a || nan f b <;> cases (isInf f a && isInf f b) && !(sF f a == sF f b) <;> cases isInf f a <;> cases isInf f b <;> rfl
theorem T30_ok {f m : Int} (hf : Fm f) (hm : 0 ≤ m ∧ m ≤ 5) {a b : Nat} (ha : chk f a = 0) (hb : chk f b = 0) :
    T30 (f, m, (a : Int), (b : Int), ()) = some (((addN f m a b).1 : Int), ((addN f m a b).2 : Int), true, ()) := by
  show t30 S27.pre S27.F f m a b = _
  unfold t30
  have p0 := T27_eq f m (pat_lt ha) (pat_lt hb)
  unfold addA at p0
  rw [if_pos hf, if_pos hm, if_pos ⟨ha, hb⟩, addR_N] at p0
  simp only [pre27 p0, fun27 p0, cond_true]
  rfl
theorem T31_ok {f m : Int} (hf : Fm f) (hm : 0 ≤ m ∧ m ≤ 5) {a b : Nat} (ha : chk f a = 0) (hb : chk f b = 0) :
    T31 (f, m, (a : Int), (b : Int), ()) = some (((addN f m a (negF f b)).1 : Int), ((addN f m a (negF f b)).2 : Int), true, ()) := by
  show t31 S25.pre S25.F f m a b = _
  unfold t31
  have p0 := T25_eq f m (pat_lt ha) (pat_lt hb)
  unfold subA addA at p0
  rw [if_pos hf, if_pos hm, if_pos hb, if_pos ⟨ha, neg_chk hf b⟩, addR_N] at p0
  simp only [pre25 p0, fun25 p0, cond_true]
  rfl
theorem eF_neg {f : Int} (hf : Fm f) (a : Nat) : eF f (negF f a) = eF f a := by rw [eF_abs hf, eF_abs hf, neg_abs]
theorem mF_neg {f : Int} (hf : Fm f) (a : Nat) : mF f (negF f a) = mF f a := by rw [mF_abs hf, mF_abs hf, neg_abs]
theorem inf_neg {f : Int} (hf : Fm f) (a : Nat) : isInf f (negF f a) = isInf f a := by unfold isInf; rw [eF_neg hf, mF_neg hf]
theorem mant_neg {f : Int} (hf : Fm f) (a : Nat) : mant f (negF f a) = mant f a := by unfold mant; rw [eF_neg hf, mF_neg hf]
theorem xpn_neg {f : Int} (hf : Fm f) (a : Nat) : xpn f (negF f a) = xpn f a := by unfold xpn; rw [eF_neg hf]
theorem sum_parts {f m : Int} (hf : Fm f) (hm : 0 ≤ m ∧ m ≤ 5) (nx : Bool) (X : Nat) (ex : Int) (ny : Bool) (Y : Nat) (ey : Int) :
    ∃ s x g, sumBits f m nx X ex ny Y ey = (mkF f s x, g) ∧ x ≤ infF f := by
  obtain ⟨s, _, x, g, h, _, h2, _⟩ := sum_mir hf hm nx X ex ny Y ey
  exact ⟨s, x, g, h, h2⟩
theorem addN_chk {f m : Int} (hf : Fm f) (hm : 0 ≤ m ∧ m ≤ 5) {a b : Nat} (ha : chk f a = 0) (hb : chk f b = 0) : chk f (addN f m a b).1 = 0 := by
  have hn := (nan_nanF hf).2
  unfold addN
  cases snan f a || snan f b
  · cases nan f a || nan f b
    · cases (isInf f a && isInf f b) && !(sF f a == sF f b)
      · cases isInf f a
        · cases isInf f b
          · obtain ⟨s, x, g, h, hx⟩ := sum_parts hf hm (sF f a) (mant f a) (xpn f a) (sF f b) (mant f b) (xpn f b)
            simp only [cond_false]
            rw [h]
            exact mk_chk hf _ (Nat.lt_of_le_of_lt hx (infF_lt hf))
          · exact hb
        · exact ha
      · exact hn
    · exact hn
  · exact hn
theorem addN_comm {f m : Int} (hf : Fm f) {a b : Nat} (ha : chk f a = 0) (hb : chk f b = 0) : addN f m a b = addN f m b a := by
  have h := addR_comm (m := m) hf ha hb
  rw [addR_N, addR_N] at h
  have h1 : (addN f m a b).1 = (addN f m b a).1 := by have := congrArg (fun t : Int × Int × Int × Unit => t.1) h; exact Int.ofNat_inj.1 this
  have h2 : (addN f m a b).2 = (addN f m b a).2 := by have := congrArg (fun t : Int × Int × Int × Unit => t.2.1) h; exact Int.ofNat_inj.1 this
  exact Prod.ext h1 h2
/-- turned round: the opposite, by the mode that rounds the other way -/
theorem addN_mir {f m : Int} (hf : Fm f) (hm : 0 ≤ m ∧ m ≤ 5) (a b : Nat) :
    (addN f (mir m) (negF f a) (negF f b)).2 = (addN f m a b).2 ∧ nan f (addN f (mir m) (negF f a) (negF f b)).1 = nan f (addN f m a b).1 ∧
    (nan f (addN f m a b).1 = false → place f (addN f m a b).1 = -place f (addN f (mir m) (negF f a) (negF f b)).1) := by
  have hn := (nan_nanF hf).1
  unfold addN
  rw [snan_neg hf, snan_neg hf, nan_neg hf, nan_neg hf, inf_neg hf, inf_neg hf, mant_neg hf, mant_neg hf, xpn_neg hf, xpn_neg hf, neg_sgn, neg_sgn,
    show (!(!sF f a) == !sF f b) = !(sF f a == sF f b) by cases sF f a <;> cases sF f b <;> rfl]
  cases snan f a || snan f b
  · cases hnn : nan f a || nan f b
    · cases (isInf f a && isInf f b) && !(sF f a == sF f b)
      · cases isInf f a
        · cases isInf f b
          · obtain ⟨s, s', x, g, h1, h2, hx, hs⟩ := sum_mir hf hm (sF f a) (mant f a) (xpn f a) (sF f b) (mant f b) (xpn f b)
            have hxl := Nat.lt_of_le_of_lt hx (infF_lt hf)
            simp only [cond_false]
            rw [h1, h2]
            refine ⟨rfl, ?_, fun _ => ?_⟩
            · rw [mk_nan hf _ hx, mk_nan hf _ hx]
            · rw [mk_place _ hxl, mk_place _ hxl]
              rcases hs with rfl | rfl
              · cases s <;> simp
              · cases s <;> cases s' <;> rfl
          · refine ⟨rfl, nan_neg hf b, fun _ => ?_⟩
            show place f b = -place f (negF f b)
            rw [neg_place, Int.neg_neg]
        · refine ⟨rfl, nan_neg hf a, fun _ => ?_⟩
          show place f a = -place f (negF f a)
          rw [neg_place, Int.neg_neg]
      · exact ⟨rfl, rfl, fun h => by have h' : nan f (nanF f) = false := h; rw [hn] at h'; cases h'⟩
    · exact ⟨rfl, rfl, fun h => by have h' : nan f (nanF f) = false := h; rw [hn] at h'; cases h'⟩
  · exact ⟨rfl, rfl, fun h => by have h' : nan f (nanF f) = false := h; rw [hn] at h'; cases h'⟩
/-- a number less itself -/
theorem addN_self {f m : Int} (hf : Fm f) {a : Nat} (hfin : eF f a ≠ fullF f) : addN f m a (negF f a) = (sgnF f (m == 4), 0) := by
  obtain ⟨v1, v2, v3⟩ := part_vals hfin
  unfold addN
  rw [snan_neg hf, nan_neg hf, inf_neg hf, mant_neg hf, xpn_neg hf, neg_sgn, v1, v2, v3]
  simp only [Bool.or_self, Bool.false_and, cond_false]
  unfold sumBits
  rw [if_neg (show ¬ (sF f a = !sF f a) by cases sF f a <;> decide)]
  rw [if_pos rfl]
theorem place_mant {f : Int} (hf : Fm f) {a : Nat} (h : place f a ≠ 0) : mant f a ≠ 0 := fun hm => by
  have habs : absF f a ≠ 0 := fun h0 => h (by unfold place; rw [h0]; cases sF f a <;> rfl)
  have hpp := Nat.two_pow_pos (fP f - 1)
  unfold mant at hm
  split at hm
  · rename_i he
    exact habs ((zero_iff hf a).2 ⟨he, hm⟩)
  · omega
theorem zero_vals {f : Int} (hf : Fm f) (z : Bool) : chk f (mkF f z 0) = 0 ∧ eF f (mkF f z 0) = 0 ∧ mant f (mkF f z 0) = 0 ∧ sF f (mkF f z 0) = z := by
  have hlt : 0 < 2 ^ (fW f - 1) := Nat.two_pow_pos _
  have h0 := (zero_iff hf (mkF f z 0)).1 (mk_abs z hlt)
  refine ⟨mk_chk hf z hlt, h0.1, ?_, mk_sgn z hlt⟩
  unfold mant; rw [if_pos h0.1]; exact h0.2
/-- a zero added -/
theorem addN_zero {f m : Int} (hf : Fm f) {a : Nat} (h : chk f a = 0) (hfin : eF f a ≠ fullF f) (h0 : mant f a ≠ 0) (z : Bool) : addN f m a (mkF f z 0) = (a, 0) := by
  obtain ⟨v1, v2, v3⟩ := part_vals hfin
  obtain ⟨_, z2, z3, z4⟩ := zero_vals hf z
  obtain ⟨w1, w2, w3⟩ := part_vals (f := f) (a := mkF f z 0) (by rw [z2]; have := full_pos hf; omega)
  unfold addN
  rw [v1, v2, v3, w1, w2, w3, z3]
  simp only [Bool.or_self, Bool.false_and, cond_false]
  rw [sum_zero hf, if_neg h0]
  exact rnd_self hf h hfin h0
theorem T7_true (F M : Int) (A B C : Nat) : T7 ((F, M, (A : Int), (B : Int), (C : Int), ()), ()) = some (true, ()) := by
  show t7 S24.pre S24.F S29.pre S29.F S32.pre S32.F S33.pre S33.F S34.pre S34.F S36.pre S36.F S31.pre S31.F S35.pre S35.F S37.pre S37.F S30.pre S30.F (F, M, (A : Int), (B : Int), (C : Int), ()) = _
  unfold t7
  obtain ⟨f, m, a, b, c, hf, hm, ha, hb, hc, p29⟩ := T29_ok F M A B C
  have hmm := mir_ok hm
  have p30 := T30_ok hf hm ha hb
  have p30' := T30_ok hf hm hb ha
  have p31 := T31_ok hf hm ha hb
  have p32 := T32_ok hb
  have p30n := T30_ok hf hm ha (neg_chk hf b)
  have p33 := T33_eq m
  have p31m := T31_ok hf hmm hb ha
  have hcx := addN_chk hf hm ha (neg_chk hf b)
  have hcy := addN_chk hf hmm hb (neg_chk hf a)
  have p34 := T34_eq hf hcx
  have p34' := T34_eq hf hcy
  have p35 := T35_eq hf hcx
  have p35' := T35_eq hf hcy
  have p36 := T36_eq hf ha
  obtain ⟨g1, g2, g3⟩ := addN_mir hf hm a (negF f b)
  rw [neg_neg hb, addN_comm hf (neg_chk hf a) hb] at g1 g2 g3
  rw [addN_comm hf hb ha] at p30'
  have pl1 := abs_lt f hf (addN f (mir m) b (negF f a)).1
  have hplb : -(2 : Int) ^ 63 < place f (addN f (mir m) b (negF f a)).1 ∧ place f (addN f (mir m) b (negF f a)).1 < 2 ^ 63 := by
    unfold place
    cases sF f (addN f (mir m) b (negF f a)).1 <;> simp only [cond_true, cond_false] <;> omega
  have e0 : IntKind.wrap .i64 (0 - place f (addN f (mir m) b (negF f a)).1) = -place f (addN f (mir m) b (negF f a)).1 := by rw [wrapI (by omega)]; omega
  have p31s := T31_ok hf hm ha ha
  have p37 := T37_ok hf (m == 4)
  have p37z := fun z => T37_ok hf z
  have p35a := T35_eq hf ha
  simp only [pre24 t24_true, fun24 t24_true, cond_true, Bool.not_true, cond_false, pre29 p29, fun29 p29, pre30 p30, fun30 p30, pre30 p30', fun30 p30', bne_self_eq_false, Bool.or_self, pre31 p31, fun31 p31, pre32 p32, fun32 p32, pre30 p30n, fun30 p30n,
    pre33 p33, fun33 p33, pre31 p31m, fun31 p31m, g1, pre34 p34, fun34 p34, pre34 p34', fun34 p34', pre35 p35, fun35 p35, pre35 p35', fun35 p35', Bool.true_or, g2, e0, Bool.or_false, pre36 p36, fun36 p36]
  have hbad : (!nan f (addN f m a (negF f b)).1 && (place f (addN f m a (negF f b)).1 != -place f (addN f (mir m) b (negF f a)).1)) = false := by
    cases hnn : nan f (addN f m a (negF f b)).1 with
    | true => rfl
    | false => rw [g3 hnn]; simp
  have z0 : (((0 : Nat) : Int) != 0) = false := rfl
  simp only [hbad, cond_false, Bool.false_or, beq_self_eq_true, Bool.not_true]
  by_cases hfin : eF f a ≠ fullF f
  · have hself := addN_self (m := m) hf hfin
    rw [hself] at p31s
    rw [decide_eq_true hfin]
    simp only [Bool.not_true, Bool.not_false, cond_false, z0, Bool.or_false, pre31 p31s, fun31 p31s, pre37 p37, fun37 p37, Bool.true_or, cond_true, bne_self_eq_false, Bool.or_self, pre35 p35a, fun35 p35a]
    by_cases hp : place f a = 0
    · rw [hp]; rfl
    · have hz := p37z (Int.tmod (b : Int) 2 == 1)
      have hne : (place f a == 0) = false := by simpa using hp
      have hm0 := place_mant hf hp
      obtain ⟨zc, _⟩ := zero_vals hf (Int.tmod (b : Int) 2 == 1)
      have p30z := T30_ok hf hm ha zc
      rw [addN_zero hf ha hfin hm0, ← sgn_zero] at p30z
      simp only [hne, cond_false, pre37 hz, fun37 hz, pre30 p30z, fun30 p30z, cond_true, Bool.true_and, beq_self_eq_true, Bool.and_true]
      rfl
  · rw [decide_eq_false hfin]
    rfl
end VL
namespace Vx
open Go Go.RowKit Go.ChangeShapes Go.WideShapes
/-- numbers in their ranges, lengths below 2^63 -/
def wfD : (τ : Shape) → Den τ → Prop
  | .int k, n => k.min ≤ n ∧ n ≤ k.max
  | .slice e, xs => xs.length < lim ∧ ∀ x ∈ xs, wfD e x
  | .pair a b, x => wfD a x.1 ∧ wfD b x.2
  | .bool, _ => True
  | .str, _ => True
  | .fn, _ => True
  | .unit, _ => True
theorem DRep.wfD {w : World} {S : Nat → Prop} : ∀ {τ : Shape} {x : Den τ} {cs : List Value}, DRep w S τ x cs → wfD τ x
  | .int _, _, _, h => h.2
  | .bool, _, _, _ => trivial
  | .str, _, _, _ => trivial
  | .fn, _, _, _ => trivial
  | .unit, _, _, _ => trivial
  | .slice _, xs, _, ⟨A, c, _, h1, h2, h3⟩ => by
    refine ⟨Nat.lt_of_le_of_lt h1 h2, fun x hx => ?_⟩
    obtain ⟨r, o, vs, T, fz, _, _, _, h⟩ := h3 (List.ne_nil_of_mem hx)
    obtain ⟨i, hi⟩ := List.getElem?_of_mem hx
    obtain ⟨ds, hd, _⟩ := h i x hi
    exact hd.wfD
  | .pair _ _, _, _, ⟨c1, c2, _, h1, h2⟩ => ⟨h1.wfD, h2.wfD⟩
def wfS : (sg : Sig) → DenS sg → Prop
  | [], _ => True
  | (_, τ) :: r, x => wfD τ x.1 ∧ wfS r x.2
/-- what a datum says -/
def undat {H : Type} : (τ : Shape) → (DataW H → Option (Den τ)) × (List (DataW H) → Option (Den τ))
  | .int k => (fun d => match d with | .lit (.int k' n) => if k' = k then some n else none | _ => none, fun _ => none)
  | .bool => (fun d => match d with | .lit (.bool b) => some b | _ => none, fun _ => none)
  | .unit => (fun d => match d with | .agg [] => some () | _ => none, fun l => match l with | [] => some () | _ => none)
  | .pair a b =>
    let f := fun l => match l with
      | d :: r => (match (undat a).1 d, (undat b).2 r with | some x, some y => some (x, y) | _, _ => none)
      | [] => none
    (fun d => match d with | .agg l => f l | _ => none, f)
  | .str => (fun _ => none, fun _ => none)
  | .fn => (fun _ => none, fun _ => none)
  | .slice _ => (fun _ => none, fun _ => none)
/-- a type's shape -/
def fitF (P : Program) (g : TypeId → Shape → Bool) : List Field → Nat → Shape → Bool
  | [], _, .unit => true
  | f :: fs, o, .pair a b => (f.offset == o) && (P.cellsOf f.type == a.width) && g f.type a && fitF P g fs (o + a.width) b
  | _, _, _ => false
def fitB (P : Program) : Nat → TypeId → Shape → Bool
  | 0, _, _ => false
  | n + 1, t, τ => match P.underlying t with
    | some (.int k) => (match τ with | .int k' => decide (k = k') | _ => false)
    | some .bool => (match τ with | .bool => true | _ => false)
    | some (.slice e) => (match τ with | .slice σ => (P.cellsOf e == σ.width) && decide (0 < σ.width) && fitB P n e σ | _ => false)
    | some (.struct fs) => (P.cellsOf t == τ.width) && fitF P (fitB P n) fs.toList 0 τ
    | _ => false
theorem choose_list {A : Type} {Q : Nat → A → Prop} : ∀ (n : Nat), (∀ i, i < n → ∃ x, Q i x) → ∃ xs : List A, xs.length = n ∧ ∀ i x, xs[i]? = some x → Q i x
  | 0, _ => ⟨[], rfl, fun i x h => by simp at h⟩
  | n + 1, h => by
    obtain ⟨xs, h1, h2⟩ := choose_list n fun i hi => h i (by omega)
    obtain ⟨x, hx⟩ := h n (by omega)
    refine ⟨xs ++ [x], by simp [h1], fun i y hy => ?_⟩
    rcases Nat.lt_or_ge i n with hi | hi
    · rw [List.getElem?_append_left (by omega)] at hy
      exact h2 i y hy
    · rw [List.getElem?_append_right (by omega)] at hy
      have : i = n := by
        have := (List.getElem?_eq_some_iff.1 hy).1
        simp at this; omega
      subst this
      simp [h1] at hy
      exact hy ▸ hx
theorem wf_int {k : IntKind} {n : Int} (h : (Lit.int k n).wf = true) : k.min ≤ n ∧ n ≤ k.max := by
  simpa [Lit.wf] using h
section
variable {H : Type} {enc : TypeId × Value → H} {P : Program} {W : World} {spare : Nat → Bool} {held : Bool}
theorem fitF_ok {n : Nat} {m : Nat} {cs : List Value} (ih : ∀ (t : TypeId) (τ : Shape) (cs : List Value) (d : DataW H) (p : List MemPlace), fitB P n t τ = true → DataW.trod enc P W 0 spare held m t cs = some (d, p) → ∃ x : Den τ, DRep W (fun q => q < W.heap.size) τ x cs ∧ ∀ y, (undat τ).1 d = some y → x = y) :
    ∀ (l : List Field) (o : Nat) (τ : Shape) (xs : List (DataW H × List MemPlace)), fitF P (fitB P n) l o τ = true → xs.length = l.length → cs.length = o + τ.width →
      (∀ (i : Nat) (f : Field), l[i]? = some f → DataW.trod enc P W 0 spare held m f.type ((cs.drop f.offset).take (P.cellsOf f.type)) = xs[i]?) →
      ∃ x : Den τ, DRep W (fun q => q < W.heap.size) τ x (cs.drop o) ∧ ∀ y, (undat τ).2 (xs.map (·.1)) = some y → x = y
  | [], o, τ, xs, hf, hx, hl, _ => by
    cases τ <;> simp [fitF] at hf
    refine ⟨(), ?_, fun _ _ => rfl⟩
    show cs.drop o = []
    apply List.drop_eq_nil_of_le
    simp [Shape.width] at hl
    omega
  | f :: fs, o, τ, xs, hf, hx, hl, h => by
    cases τ with
    | pair a b =>
      simp only [fitF, Bool.and_eq_true, beq_iff_eq] at hf
      obtain ⟨⟨⟨ho, hc⟩, hg⟩, hr⟩ := hf
      cases xs with
      | nil => simp at hx
      | cons x0 xs =>
        have h0 := h 0 f rfl
        rw [ho, hc] at h0
        simp only [List.getElem?_cons_zero] at h0
        obtain ⟨xa, ha, hua⟩ := ih f.type a _ x0.1 x0.2 hg h0
        simp only [Shape.width] at hl
        obtain ⟨xb, hb, hub⟩ := fitF_ok ih fs (o + a.width) b xs hr (by simpa using hx) (by rw [hl]; omega) fun i g hi => by
          have := h (i + 1) g (by simpa using hi)
          simpa using this
        refine ⟨(xa, xb), ⟨(cs.drop o).take a.width, cs.drop (o + a.width), ?_, ha, hb⟩, fun y hy => ?_⟩
        · rw [← List.drop_drop, List.take_append_drop]
        · simp only [undat, List.map_cons] at hy
          split at hy
          · rename_i e1 e2
            have := hua _ e1; have := hub _ e2
            subst_vars
            exact Option.some.inj hy
          · cases hy
    | _ => simp [fitF] at hf
theorem fit_ok : ∀ (n : Nat) (m : Nat) (t : TypeId) (τ : Shape) (cs : List Value) (d : DataW H) (p : List MemPlace), fitB P n t τ = true → DataW.trod enc P W 0 spare held m t cs = some (d, p) →
    ∃ x : Den τ, DRep W (fun q => q < W.heap.size) τ x cs ∧ ∀ y, (undat τ).1 d = some y → x = y
  | 0, _, _, _, _, _, _, h, _ => by simp [fitB] at h
  | n + 1, m, t, τ, cs, d, p, h, ht => by
    unfold fitB at h
    split at h
    · rename_i k hk
      cases τ with
      | int k' =>
        simp only [decide_eq_true_eq] at h
        subst h
        obtain ⟨v, hv, hx, hw⟩ := DataW.trod_int hk ht
        simp only [Prod.mk.injEq] at hx
        refine ⟨v, ⟨hv, wf_int hw⟩, fun y hy => ?_⟩
        rw [hx.1] at hy
        simp only [undat, if_true] at hy
        exact Option.some.inj hy
      | _ => cases h
    · rename_i hk
      cases τ with
      | bool =>
        obtain ⟨v, hv, hx⟩ := DataW.trod_bool hk ht
        simp only [Prod.mk.injEq] at hx
        refine ⟨v, hv, fun y hy => ?_⟩
        rw [hx.1] at hy
        simp only [undat] at hy
        exact Option.some.inj hy
      | _ => cases h
    · rename_i e hk
      cases τ with
      | slice σ =>
        simp only [Bool.and_eq_true, beq_iff_eq, decide_eq_true_eq] at h
        obtain ⟨⟨hc, hpos⟩, hf⟩ := h
        rcases DataW.trod_slice hk ht with ⟨hcs, hx⟩ | ⟨a, len, cap, elems, rest, m', rfl, hcs, hx, hb, hlc, hcap, hlen, hel, _⟩
        · exact ⟨[], ⟨none, 0, hcs, Nat.le_refl _, by decide, fun h => absurd rfl h⟩, fun y hy => by simp [undat] at hy⟩
        · have each : ∀ i, i < len → ∃ x : Den σ, ∃ ds, W.cells? 0 (a.add (i * P.cellsOf e)) (P.cellsOf e) = some ds ∧ DRep W (fun q => q < W.heap.size) σ x ds := fun i hi => by
            have := hel i hi
            rw [List.getElem?_eq_getElem (by omega), Option.bind_eq_some_iff] at this
            obtain ⟨ds, h1, h2⟩ := this
            obtain ⟨x, hx, _⟩ := fit_ok n m' e σ ds (elems[i]'(by omega)).1 (elems[i]'(by omega)).2 hf h2
            exact ⟨x, ds, h1, hx⟩
          obtain ⟨xs, hxl, hxs⟩ := choose_list len each
          refine ⟨xs, ⟨some a, cap, by rw [hxl]; exact hcs, by omega, by unfold lim; unfold maxLen at hcap; omega, fun hne => ?_⟩, fun y hy => by simp [undat] at hy⟩
          have h0 : 0 < xs.length := List.length_pos_iff.2 hne
          obtain ⟨ds0, hd0, _⟩ := hxs 0 xs[0] (List.getElem?_eq_getElem h0)
          obtain ⟨_, hl0, hc0⟩ := World.cells?_some hd0
          have hz : a.add (0 * P.cellsOf e) = a := by simp [Addr.add]
          have hz' : a.add 0 = a := by simp [Addr.add]
          rw [hz] at hc0
          have hc00 := hc0 0 (by omega)
          rw [hz', List.getElem?_eq_getElem (by omega)] at hc00
          unfold World.cell? at hc00
          split at hc00
          · rename_i c T fz hheap
            split at hc00
            · cases hc00
            · rename_i hspot
              have hs : a.spot = none := by simpa using hspot
              have hadd : ∀ q, a.add q = ⟨a.block, a.off + q, none⟩ := fun q => by
                unfold Addr.add
                split
                · subst_vars; cases a; simp at hs; simp [hs]
                · rfl
              have ha : a = ⟨a.block, a.off, none⟩ := by cases a; simp at hs; simp [hs]
              refine ⟨a.block, a.off, c, T, fz, by rw [← ha], ?_, hheap, fun i x hi => ?_⟩
              · exact (Array.getElem?_eq_some_iff.1 hheap).1
              · obtain ⟨ds, hd, hr⟩ := hxs i x hi
                refine ⟨ds, hr, fun j v hj => ?_⟩
                obtain ⟨_, hl, hcj⟩ := World.cells?_some hd
                have hjl : j < P.cellsOf e := by rw [← hl]; exact (List.getElem?_eq_some_iff.1 hj).1
                have := hcj j hjl
                rw [hadd, hj] at this
                have hadd2 : (⟨a.block, a.off + i * P.cellsOf e, none⟩ : Addr).add j = ⟨a.block, a.off + i * P.cellsOf e + j, none⟩ := by
                  unfold Addr.add
                  split
                  · subst_vars; rfl
                  · rfl
                rw [hadd2] at this
                unfold World.cell? at this
                simp only [hheap] at this
                rw [hc] at this
                exact this
          · cases hc00
      | _ => cases h
    · rename_i fs hk
      simp only [Bool.and_eq_true, beq_iff_eq] at h
      obtain ⟨hc, hf⟩ := h
      obtain ⟨xs, m', rfl, hx, hl, hxl, hel⟩ := DataW.trod_struct hk ht
      simp only [Prod.mk.injEq] at hx
      obtain ⟨x, h1, h2⟩ := fitF_ok (fun t τ cs d p => fit_ok n m' t τ cs d p) fs.toList 0 τ xs hf (by simpa using hxl) (by rw [hl, hc]; omega) fun i f hi => hel i f (by simpa using hi)
      refine ⟨x, by simpa using h1, fun y hy => h2 y ?_⟩
      rw [hx.1] at hy
      cases τ with
      | pair a b => exact hy
      | unit =>
        simp only [undat] at hy ⊢
        split at hy
        · rename_i e; simp only [DataW.agg.injEq] at e; rw [e]
        · cases hy
      | _ => simp [undat] at hy
    · cases h
end
end Vx
namespace Vx
open Go Go.RowKit Go.ChangeShapes Go.WideShapes
def isStruct (P : Program) (t : TypeId) : Bool := match P.underlying t with
  | some (.struct _) => true
  | _ => false
def fitS (P : Program) (n : Nat) : List TypeId → Sig → Bool
  | [], [] => true
  | t :: ts, (a, τ) :: r => fitB P n t τ && (a == isStruct P t) && fitS P n ts r
  | _, _ => false
section
variable {H : Type} {enc : TypeId × Value → H} {P : Program} {W : World}
theorem cells_one {n : Nat} {t : TypeId} {τ : Shape} {r : Reach} {b0 : Nat} {v : Value} (hf : fitB P n t τ = true) (hs : isStruct P t = false) (hv : Value.okWide P W r b0 t v) : v.cells.toList = [v] := by
  cases n with
  | zero => simp [fitB] at hf
  | succ n =>
    unfold fitB at hf
    split at hf
    · rename_i k hk; obtain ⟨_, rfl⟩ := okWide_int hk hv; rfl
    · rename_i hk; obtain ⟨_, rfl⟩ := okWide_bool hk hv; rfl
    · rename_i e hk; obtain ⟨_, _, _, rfl⟩ := okWide_slice hk hv; rfl
    · rename_i fs hk; simp [isStruct, hk] at hs
    · cases hf
theorem erep_plain {S : Nat → Prop} {a : Bool} {τ : Shape} {x : Den τ} {y : Value} (ho : ownE a τ = false) (h : PRep W S a τ x y) : ERep W S a τ x y [] := by
  cases τ with
  | slice e =>
    cases a with
    | true => cases ho
    | false => exact ⟨rfl, h⟩
  | _ => exact ⟨rfl, h⟩
theorem args_ok {n : Nat} {sp : Nat → Bool} {held : Bool} {b0 : Nat} : ∀ (ts : List TypeId) (I : Sig) (vs : List Value) (ds : List (DataW H)) (ps : List MemPlace), fitS P n ts I = true →
    (∀ (j : Nat) (t : TypeId) (v : Value), ts[j]? = some t → vs[j]? = some v → Value.okWide P W .any b0 t v) → DataW.TrodAll enc P W 0 sp held ts vs ds ps → ∃ x : DenS I, SRep W (fun q => q < W.heap.size) I x vs [] ∧ wfS I x ∧ ds.length = ts.length
  | [], [], vs, ds, ps, _, _, h => by
    cases vs <;> cases ds <;> simp [DataW.TrodAll] at h
    exact ⟨(), ⟨rfl, rfl⟩, trivial, rfl⟩
  | [], _ :: _, _, _, _, hf, _, _ => by simp [fitS] at hf
  | _ :: _, [], _, _, _, hf, _, _ => by simp [fitS] at hf
  | t :: ts, (a, τ) :: I, vs, ds, ps, hf, hv, h => by
    cases vs with
    | nil => simp [DataW.TrodAll] at h
    | cons v vs =>
      cases ds with
      | nil => simp [DataW.TrodAll] at h
      | cons d ds =>
        obtain ⟨p, q, ⟨m, hp⟩, hq, _⟩ := h
        simp only [fitS, Bool.and_eq_true, beq_iff_eq] at hf
        obtain ⟨⟨h1, h2⟩, h3⟩ := hf
        obtain ⟨x, hx, hw, hl⟩ := args_ok ts I vs ds q h3 (fun j t v ht hv' => hv (j + 1) t v (by simpa using ht) (by simpa using hv')) hq
        obtain ⟨y, hy, _⟩ := fit_ok n m t τ _ d p h1 hp
        have hok := hv 0 t v rfl rfl
        refine ⟨(y, x), ⟨v, vs, [], [], rfl, rfl, erep_plain ?_ ?_, hx⟩, ⟨hy.wfD, hw⟩, by simp [hl]⟩
        · cases τ with
          | slice σ =>
            show a = false
            rw [h2]
            cases n with
            | zero => simp [fitB] at h1
            | succ n =>
              unfold fitB at h1
              unfold isStruct
              split at h1 <;> rename_i hk <;> first | (rw [hk]; done) | (simp only [hk]; done) | (simp [fitF] at h1; done) | skip
          | _ => rfl
        cases a with
        | true =>
          have hs : isStruct P t = true := h2.symm
          unfold isStruct at hs
          split at hs
          · rename_i fs hk
            unfold Value.okWide at hok
            rw [hk] at hok
            obtain ⟨cs, rfl, _⟩ := hok
            exact ⟨cs.toList, by simp, hy⟩
          · cases hs
        | false =>
          have hs : isStruct P t = false := h2.symm
          rw [cells_one h1 hs hok] at hy
          exact hy
theorem trodAll_below (hl : laidOutB P = true) {W' : World} (hb : Below W.heap.size W W') : ∀ (ts : List TypeId) (vs : List Value) (ds : List (DataW H)) (ps : List MemPlace), (ts.all fun t => P.readableRec t && decide (t < P.types.size)) = true →
    DataW.TrodAll enc P W 0 (fun _ => true) true ts vs ds ps → (∀ x ∈ ps, x.block < W.heap.size) → DataW.TrodAll enc P W' 0 (fun b => decide (b < W.heap.size)) true ts vs ds ps
  | [], vs, ds, ps, _, h, _ => by
    cases vs <;> cases ds <;> simp [DataW.TrodAll] at h ⊢
    exact h
  | t :: ts, vs, ds, ps, hr, h, hlt => by
    cases vs with
    | nil => simp [DataW.TrodAll] at h
    | cons v vs =>
      cases ds with
      | nil => simp [DataW.TrodAll] at h
      | cons d ds =>
        obtain ⟨p, q, hp, hq, rfl⟩ := h
        simp only [List.all_cons, Bool.and_eq_true, decide_eq_true_eq] at hr
        exact ⟨p, q, Below.trod hl hr.1.1 hr.1.2 hp hb (fun x hx => hlt x (List.mem_append.2 (.inl hx))),
          trodAll_below hl hb ts vs ds q hr.2 hq (fun x hx => hlt x (List.mem_append.2 (.inr hx))), rfl⟩
/-- a table that is laid -/
theorem glob_of {n : String} {g : Nat} {t e : TypeId} {m k : Nat} {τ : Shape} {ds : List (DataW Unit)} {xs : List (Den τ)} {r : List (String × DataW Unit)} {ps : List MemPlace}
    (hL : DataW.LaidVars P W ((n, .agg ds) :: r) ps) (hg : P.globalNamed n = some g) (ht : (P.globals[g]?).map (·.type) = some t) (hu : P.underlying t = some (.array m e)) (hc : P.cellsOf e = τ.width) (hf : fitB P k e τ = true)
    (hx : ds.map (undat τ).1 = xs.map some) :
    (g < W.heap.size ∧ ∃ vs T fz, W.heap[g]? = some (.cells vs T fz) ∧ Rows W (fun q => q < W.heap.size) τ vs 0 xs) ∧ ∃ ps', DataW.LaidVars P W r ps' := by
  obtain ⟨g', t', cs, fuel, p, q, h1, h2, h3, h4, h5, _⟩ := hL
  rw [hg] at h1; cases h1
  rw [ht] at h2; cases h2
  refine ⟨?_, q, h5⟩
  unfold World.var? at h3
  rw [hg] at h3
  simp only [Option.bind_some] at h3
  split at h3
  · rename_i c T fz hh
    cases h3
    refine ⟨(Array.getElem?_eq_some_iff.1 hh).1, cs, T, fz, hh, ?_⟩
    obtain ⟨ys, m', rfl, hy, hl, hyl, hel⟩ := DataW.trod_array hu h4
    simp only [Prod.mk.injEq, DataW.agg.injEq] at hy
    intro i x hi
    have hxl : xs.length = m := by
      have := congrArg List.length hx
      simp [hy.1, hyl] at this
      omega
    have him : i < m := by rw [← hxl]; exact (List.getElem?_eq_some_iff.1 hi).1
    have he := hel i him
    have hyi : ys[i]? = some (ys[i]'(by omega)) := List.getElem?_eq_getElem (by omega)
    rw [hyi, hc] at he
    obtain ⟨x', h6, h7⟩ := fit_ok k m' e τ _ _ _ hf he
    have hd : (undat τ).1 (ys[i]'(by omega)).1 = some x := by
      have := congrArg (·[i]?) hx
      simp only [List.getElem?_map, hy.1, hyi, hi, Option.map_some] at this
      exact Option.some.inj this
    have := h7 x hd
    subst this
    refine ⟨_, h6, fun j v hj => ?_⟩
    rw [List.getElem?_take] at hj
    split at hj
    · rw [List.getElem?_drop] at hj
      simpa using hj
    · cases hj
  · cases h3
theorem returns_true {G : List (Nat × Sigma fun τ => List (Den τ))} {f : FuncId} {I : Sig} {T : DenS I → Option (DenS [(false, .bool)])} {d : DenS [(false, .bool)]} (hS : Sound P G f (sumOf I [(false, .bool)] T d)) {x : DenS I} (hT : T x = some (true, ())) (hcal : ∃ fn, P.funcs[f]? = some fn ∧ fn.body.isNone = false ∧ (fn.name == "runtime.NumGoroutine") = false) {W : World} {args : Array Value}
    (hG : GlobsOk G W fun q => q < W.heap.size) (ha : SRep W (fun q => q < W.heap.size) I x args.toList []) : Calls P f args W fun e W' => e = .returned (.bool true) ∧ Below W.heap.size W W' := by
  have := hS.calls x (by show (T x).isSome = true; rw [hT]; rfl) W (fun q => q < W.heap.size) args.toList [] (fun q h => h) hG ha List.nodup_nil (fun r h => by simp at h)
  rw [Array.toArray_toList] at this
  have this := this.resolve_right (fun ⟨v, hv, _⟩ => by rw [run_callFunc hcal] at hv; cases hv)
  refine this.2.mono fun e W' ⟨zs, rs', he, hb, _, _, hz⟩ => ⟨?_, ⟨hb.os, hb.tape, hb.output, hb.size, fun k hk => hb.block k hk (fun h => by simp at h)⟩⟩
  obtain ⟨y, ys, r1, r2, rfl, _, ⟨_, h1⟩, rfl, _⟩ := hz
  have h2 : [y] = [Value.bool ((T x).getD d).1] := h1
  rw [hT] at h2
  cases h2
  exact he
/-- what a law's row asks -/
theorem law_post {G : List (Nat × Sigma fun τ => List (Den τ))} {f : FuncId} {fn : Func} {I : Sig} {T : DenS I → Option (DenS [(false, .bool)])} {d : DenS [(false, .bool)]} {s : ChangeSpec} {n : Nat} {tb : TypeId}
    (hS : Sound P G f (sumOf I [(false, .bool)] T d)) (hT : ∀ x, wfS I x → T x = some (true, ())) (hcal : ∃ fn, P.funcs[f]? = some fn ∧ fn.body.isNone = false ∧ (fn.name == "runtime.NumGoroutine") = false) (hlay : laidOutB P = true) (hfit : fitS P n fn.params.toList I = true)
    (hread : (fn.params.toList.all fun t => P.readableRec t && decide (t < P.types.size)) = true) (hres : fn.resultTypes = #[tb]) (hbool : P.underlying tb = some .bool) (hvars : s.vars = [])
    (hspec : ∀ ds : List (DataW H), ds.length = fn.params.toList.length → s.fn H ds = { results := [.lit (.bool true)], args := ds })
    {W : World} {base : Nat} {args : Array Value} {ds gs : List (DataW H)} {before : List MemPlace}
    (hval : ∀ (j : Nat) (t : TypeId) (v : Value), fn.params[j]? = some t → args[j]? = some v → Value.okWide P W .any base t v)
    (hW : DataW.Whole enc P fn.params.toList s.vars false W args.toList ds gs before) (hG : GlobsOk G W fun q => q < W.heap.size) :
    Calls P f args W fun e W' => ∃ v, e = .returned v ∧ ChangeSpec.post enc P fn s false true false false W args v W' := by
  have hW' := hW
  obtain ⟨p, q, hA, hV, rfl, _, _⟩ := hW
  rw [hvars] at hV
  obtain ⟨rfl, rfl⟩ := trodVars_none hV
  obtain ⟨x, hx, hw, hlen⟩ := args_ok (b0 := base) fn.params.toList I args.toList ds p hfit (fun j t v ht hv => hval j t v (by simpa using ht) (by simpa using hv)) hA
  refine (returns_true hS (hT x hw) hcal hG hx).mono fun e W' ⟨he, hb⟩ => ⟨.bool true, he, ds, [], p ++ [], [], p, [], hW', ?_, ?_, ?_, hb.frame _, fun h => by cases h⟩
  · rw [List.append_nil, hspec ds hlen, hres]
    exact trodAll_mk1 (shut_bool hbool true)
  · rw [List.append_nil, hspec ds hlen]
    exact trodAll_below hlay hb _ _ _ _ hread hA fun y hy => by simpa using hW'.lt y (by simpa using hy)
  · rw [List.append_nil, hspec ds hlen, hvars]
    rfl
end
theorem globs_nil {W : World} {S : Nat → Prop} : GlobsOk [] W S := fun _ _ _ h => by simp [findGlob] at h
theorem globs_cons {W : World} {S : Nat → Prop} {g : Nat} {τ : Shape} {xs : List (Den τ)} {G : List (Nat × Sigma fun τ => List (Den τ))} (h : S g ∧ ∃ vs T fz, W.heap[g]? = some (.cells vs T fz) ∧ Rows W S τ vs 0 xs) (r : GlobsOk G W S) :
    GlobsOk ((g, ⟨τ, xs⟩) :: G) W S := fun g' τ' xs' hf => by
  simp only [findGlob] at hf
  cases hb : Nat.beq g g' with
  | true =>
    have := Nat.eq_of_beq_eq_true hb
    subst this
    rw [hb] at hf
    simp only [cond_true, Option.some.injEq] at hf
    cases hf
    exact h
  | false =>
    rw [hb] at hf
    exact r g' τ' xs' hf
end Vx
