/- What each function that the law reaches computes, as a Lean function, and that every run of the program ends with it (printed by a program of mine). -/
import Derived.Test.YtkkdblemeoehpaaDoorVxLoop
import Derived.Test.YtkkdblemeoehpaaDoorProg
namespace Vx
open Go Go.Proofs
abbrev rowsSh : Shape := .pair (.int .i64) (.pair (.int .i64) (.pair (.int .i64) (.pair (.int .i64) .unit)))
def k_rows : List (Den rowsSh) := [(16,11,-14,15,()), (16,8,-126,127,()), (32,24,-126,127,()), (64,53,-1022,1023,())]
def G0 : List (Nat × Sigma fun τ => List (Den τ)) := [(0, ⟨rowsSh, k_rows⟩)]
theorem mixedOk : Tryd.prog.follows .mixedOrders = true := by kernel_rfl
/-- vernier/format.Params -/
abbrev I69 : Sig := [(false, .int .i64)]
abbrev O69 : Sig := [(true, .pair (.int .i64) (.pair (.int .i64) (.pair (.int .i64) (.pair (.int .i64) (.unit))))), (false, .int .i64)]
def t69 (a0 : Den (.int .i64)) : Option (DenS O69) :=
  bif ((decide (a0 < (0 : Int))) || (decide (a0 ≥ (4 : Int)))) then
    (some (((0 : Int), ((0 : Int), ((0 : Int), ((0 : Int), ())))), ((2 : Int), ())))
  else bif ((decide ((0 : Int) ≤ a0)) && (decide (a0 < ((4 : Nat) : Int)))) then
    (some ((Vx.k_rows.getD (Int.toNat a0) ((0 : Int), ((0 : Int), ((0 : Int), ((0 : Int), ()))))), ((0 : Int), ())))
  else none
-- 5 nodes
theorem r69 (a0 : Den (.int .i64)) :
    run { P := Go.Proofs.Tryd.prog, sums := [], loops := [], globs := G0 } 9 69 Go.Proofs.Tryd.f69 I69 O69 (a0, ()) = t69 a0 := by kernel_rfl
noncomputable def T69 (x : DenS I69) : Option (DenS O69) := t69 x.1
noncomputable def C69 : Cfg := { P := Go.Proofs.Tryd.prog, sums := [], loops := [], globs := G0 }
noncomputable def S69 : Sum := sumOf I69 O69 T69 (DenS.dflt O69)
theorem S69_sound : Sound Go.Proofs.Tryd.prog G0 69 S69 :=
  fn_sound C69 9 69 Go.Proofs.Tryd.f69 mixedOk (by kernel_rfl) (by kernel_rfl) (by kernel_rfl) trivial trivial I69 O69 T69 _ fun x => r69 x.1

/-- vernier/format.Check -/
abbrev I66 : Sig := [(false, .int .i64), (false, .int .u64)]
abbrev O66 : Sig := [(false, .int .i64)]
def t66 (p69 : DenS I69 → Bool) (f69 : DenS I69 → DenS O69) (a0 : Den (.int .i64)) (a1 : Den (.int .u64)) : Option (DenS O66) :=
  bif (p69 (a0, ())) then
    (bif ((f69 (a0, ())).2.1 != (0 : Int)) then
      (some (f69 (a0, ())).2)
    else bif ((decide ((0 : Int) ≤ (f69 (a0, ())).1.1)) || (!(decide ((f69 (a0, ())).1.1 < (64 : Int))))) then
      (bif ((decide ((f69 (a0, ())).1.1 < (64 : Int))) && ((Vx.shrI Go.IntKind.u64 a1 (f69 (a0, ())).1.1) != (0 : Int))) then
        (some ((4 : Int), ()))
      else some ((0 : Int), ()))
    else none)
  else none
-- 9 nodes
theorem r66 (p69 : DenS I69 → Bool) (f69 : DenS I69 → DenS O69) (a0 : Den (.int .i64)) (a1 : Den (.int .u64)) :
    run { P := Go.Proofs.Tryd.prog, sums := [(69, ⟨I69, O69, p69, f69⟩)], loops := [], globs := G0 } 9 66 Go.Proofs.Tryd.f66 I66 O66 (a0, a1, ()) = t66 p69 f69 a0 a1 := by kernel_rfl
noncomputable def T66 (x : DenS I66) : Option (DenS O66) := t66 S69.pre S69.F x.1 x.2.1
noncomputable def C66 : Cfg := { P := Go.Proofs.Tryd.prog, sums := [(69, S69)], loops := [], globs := G0 }
noncomputable def S66 : Sum := sumOf I66 O66 T66 (DenS.dflt O66)
theorem S66_sound : Sound Go.Proofs.Tryd.prog G0 66 S66 :=
  fn_sound C66 9 66 Go.Proofs.Tryd.f66 mixedOk (by kernel_rfl) (by kernel_rfl) (by kernel_rfl) ⟨S69_sound, trivial⟩ trivial I66 O66 T66 _ fun x => r66 S69.pre S69.F x.1 x.2.1

/-- vernier/format.ones -/
abbrev I91 : Sig := [(false, .int .i64)]
abbrev O91 : Sig := [(false, .int .u64)]
def t91 (a0 : Den (.int .i64)) : Option (DenS O91) :=
  bif (decide ((0 : Int) ≤ a0)) then
    (some ((Go.IntKind.wrap Go.IntKind.u64 ((Vx.shlI Go.IntKind.u64 (1 : Int) a0) - (1 : Int))), ()))
  else none
-- 3 nodes
theorem r91 (a0 : Den (.int .i64)) :
    run { P := Go.Proofs.Tryd.prog, sums := [], loops := [], globs := G0 } 9 91 Go.Proofs.Tryd.f91 I91 O91 (a0, ()) = t91 a0 := by kernel_rfl
noncomputable def T91 (x : DenS I91) : Option (DenS O91) := t91 x.1
noncomputable def C91 : Cfg := { P := Go.Proofs.Tryd.prog, sums := [], loops := [], globs := G0 }
noncomputable def S91 : Sum := sumOf I91 O91 T91 (DenS.dflt O91)
theorem S91_sound : Sound Go.Proofs.Tryd.prog G0 91 S91 :=
  fn_sound C91 9 91 Go.Proofs.Tryd.f91 mixedOk (by kernel_rfl) (by kernel_rfl) (by kernel_rfl) trivial trivial I91 O91 T91 _ fun x => r91 x.1

/-- vernier/format.split -/
abbrev I90 : Sig := [(true, .pair (.int .i64) (.pair (.int .i64) (.pair (.int .i64) (.pair (.int .i64) (.unit))))), (false, .int .u64)]
abbrev O90 : Sig := [(false, .bool), (false, .int .u64), (false, .int .u64)]
def t90 (p91 : DenS I91 → Bool) (f91 : DenS I91 → DenS O91) (a0 : Den (.pair (.int .i64) (.pair (.int .i64) (.pair (.int .i64) (.pair (.int .i64) (.unit)))))) (a1 : Den (.int .u64)) : Option (DenS O90) :=
  bif (decide ((0 : Int) ≤ (Go.IntKind.wrap Go.IntKind.i64 (a0.1 - (1 : Int))))) then
    (bif (decide ((0 : Int) ≤ (Go.IntKind.wrap Go.IntKind.i64 (a0.2.1 - (1 : Int))))) then
      (bif (p91 ((Go.IntKind.wrap Go.IntKind.i64 (a0.1 - a0.2.1)), ())) then
        (bif (p91 ((Go.IntKind.wrap Go.IntKind.i64 (a0.2.1 - (1 : Int))), ())) then
          (some (((Vx.shrI Go.IntKind.u64 a1 (Go.IntKind.wrap Go.IntKind.i64 (a0.1 - (1 : Int)))) != (0 : Int)), ((Vx.andI Go.IntKind.u64 (Vx.shrI Go.IntKind.u64 a1 (Go.IntKind.wrap Go.IntKind.i64 (a0.2.1 - (1 : Int)))) (f91 ((Go.IntKind.wrap Go.IntKind.i64 (a0.1 - a0.2.1)), ())).1), ((Vx.andI Go.IntKind.u64 a1 (f91 ((Go.IntKind.wrap Go.IntKind.i64 (a0.2.1 - (1 : Int))), ())).1), ()))))
        else none)
      else none)
    else none)
  else none
-- 9 nodes
theorem r90 (p91 : DenS I91 → Bool) (f91 : DenS I91 → DenS O91) (a0 : Den (.pair (.int .i64) (.pair (.int .i64) (.pair (.int .i64) (.pair (.int .i64) (.unit)))))) (a1 : Den (.int .u64)) :
    run { P := Go.Proofs.Tryd.prog, sums := [(91, ⟨I91, O91, p91, f91⟩)], loops := [], globs := G0 } 9 90 Go.Proofs.Tryd.f90 I90 O90 (a0, a1, ()) = t90 p91 f91 a0 a1 := by kernel_rfl
noncomputable def T90 (x : DenS I90) : Option (DenS O90) := t90 S91.pre S91.F x.1 x.2.1
noncomputable def C90 : Cfg := { P := Go.Proofs.Tryd.prog, sums := [(91, S91)], loops := [], globs := G0 }
noncomputable def S90 : Sum := sumOf I90 O90 T90 (DenS.dflt O90)
theorem S90_sound : Sound Go.Proofs.Tryd.prog G0 90 S90 :=
  fn_sound C90 9 90 Go.Proofs.Tryd.f90 mixedOk (by kernel_rfl) (by kernel_rfl) (by kernel_rfl) ⟨S91_sound, trivial⟩ trivial I90 O90 T90 _ fun x => r90 S91.pre S91.F x.1 x.2.1

/-- vernier/format.Class -/
abbrev I65 : Sig := [(false, .int .i64), (false, .int .u64)]
abbrev O65 : Sig := [(false, .int .i64), (false, .int .i64)]
def t65 (p66 : DenS I66 → Bool) (f66 : DenS I66 → DenS O66) (p90 : DenS I90 → Bool) (f90 : DenS I90 → DenS O90) (p91 : DenS I91 → Bool) (f91 : DenS I91 → DenS O91) (a0 : Den (.int .i64)) (a1 : Den (.int .u64)) : Option (DenS O65) :=
  bif (p66 (a0, (a1, ()))) then
    (bif ((f66 (a0, (a1, ()))).1 != (0 : Int)) then
      (some ((0 : Int), (f66 (a0, (a1, ())))))
    else bif ((decide ((0 : Int) ≤ a0)) && (decide (a0 < ((4 : Nat) : Int)))) then
      (bif (p90 ((Vx.k_rows.getD (Int.toNat a0) ((0 : Int), ((0 : Int), ((0 : Int), ((0 : Int), ()))))), (a1, ()))) then
        (bif (p91 ((Go.IntKind.wrap Go.IntKind.i64 ((Vx.k_rows.getD (Int.toNat a0) ((0 : Int), ((0 : Int), ((0 : Int), ((0 : Int), ()))))).1 - (Vx.k_rows.getD (Int.toNat a0) ((0 : Int), ((0 : Int), ((0 : Int), ((0 : Int), ()))))).2.1)), ())) then
          (bif (((f90 ((Vx.k_rows.getD (Int.toNat a0) ((0 : Int), ((0 : Int), ((0 : Int), ((0 : Int), ()))))), (a1, ()))).2.1 == (f91 ((Go.IntKind.wrap Go.IntKind.i64 ((Vx.k_rows.getD (Int.toNat a0) ((0 : Int), ((0 : Int), ((0 : Int), ((0 : Int), ()))))).1 - (Vx.k_rows.getD (Int.toNat a0) ((0 : Int), ((0 : Int), ((0 : Int), ((0 : Int), ()))))).2.1)), ())).1) && ((f90 ((Vx.k_rows.getD (Int.toNat a0) ((0 : Int), ((0 : Int), ((0 : Int), ((0 : Int), ()))))), (a1, ()))).2.2.1 == (0 : Int))) then
            (bif (f90 ((Vx.k_rows.getD (Int.toNat a0) ((0 : Int), ((0 : Int), ((0 : Int), ((0 : Int), ()))))), (a1, ()))).1 then
              (some ((Go.IntKind.wrap Go.IntKind.i64 ((11 : Int) - (9 : Int))), ((0 : Int), ())))
            else some ((9 : Int), ((0 : Int), ())))
          else bif (p91 ((Go.IntKind.wrap Go.IntKind.i64 ((Vx.k_rows.getD (Int.toNat a0) ((0 : Int), ((0 : Int), ((0 : Int), ((0 : Int), ()))))).1 - (Vx.k_rows.getD (Int.toNat a0) ((0 : Int), ((0 : Int), ((0 : Int), ((0 : Int), ()))))).2.1)), ())) then
            (bif ((decide ((0 : Int) ≤ (Go.IntKind.wrap Go.IntKind.i64 ((Vx.k_rows.getD (Int.toNat a0) ((0 : Int), ((0 : Int), ((0 : Int), ((0 : Int), ()))))).2.1 - (2 : Int))))) || (!(decide ((f90 ((Vx.k_rows.getD (Int.toNat a0) ((0 : Int), ((0 : Int), ((0 : Int), ((0 : Int), ()))))), (a1, ()))).2.1 = (f91 ((Go.IntKind.wrap Go.IntKind.i64 ((Vx.k_rows.getD (Int.toNat a0) ((0 : Int), ((0 : Int), ((0 : Int), ((0 : Int), ()))))).1 - (Vx.k_rows.getD (Int.toNat a0) ((0 : Int), ((0 : Int), ((0 : Int), ((0 : Int), ()))))).2.1)), ())).1)))) then
              (bif (((f90 ((Vx.k_rows.getD (Int.toNat a0) ((0 : Int), ((0 : Int), ((0 : Int), ((0 : Int), ()))))), (a1, ()))).2.1 == (f91 ((Go.IntKind.wrap Go.IntKind.i64 ((Vx.k_rows.getD (Int.toNat a0) ((0 : Int), ((0 : Int), ((0 : Int), ((0 : Int), ()))))).1 - (Vx.k_rows.getD (Int.toNat a0) ((0 : Int), ((0 : Int), ((0 : Int), ((0 : Int), ()))))).2.1)), ())).1) && ((Vx.shrI Go.IntKind.u64 (f90 ((Vx.k_rows.getD (Int.toNat a0) ((0 : Int), ((0 : Int), ((0 : Int), ((0 : Int), ()))))), (a1, ()))).2.2.1 (Go.IntKind.wrap Go.IntKind.i64 ((Vx.k_rows.getD (Int.toNat a0) ((0 : Int), ((0 : Int), ((0 : Int), ((0 : Int), ()))))).2.1 - (2 : Int)))) != (0 : Int))) then
                (some ((1 : Int), ((0 : Int), ())))
              else bif (p91 ((Go.IntKind.wrap Go.IntKind.i64 ((Vx.k_rows.getD (Int.toNat a0) ((0 : Int), ((0 : Int), ((0 : Int), ((0 : Int), ()))))).1 - (Vx.k_rows.getD (Int.toNat a0) ((0 : Int), ((0 : Int), ((0 : Int), ((0 : Int), ()))))).2.1)), ())) then
                (bif ((f90 ((Vx.k_rows.getD (Int.toNat a0) ((0 : Int), ((0 : Int), ((0 : Int), ((0 : Int), ()))))), (a1, ()))).2.1 == (f91 ((Go.IntKind.wrap Go.IntKind.i64 ((Vx.k_rows.getD (Int.toNat a0) ((0 : Int), ((0 : Int), ((0 : Int), ((0 : Int), ()))))).1 - (Vx.k_rows.getD (Int.toNat a0) ((0 : Int), ((0 : Int), ((0 : Int), ((0 : Int), ()))))).2.1)), ())).1) then
                  (some ((0 : Int), ((0 : Int), ())))
                else bif (((f90 ((Vx.k_rows.getD (Int.toNat a0) ((0 : Int), ((0 : Int), ((0 : Int), ((0 : Int), ()))))), (a1, ()))).2.1 == (0 : Int)) && ((f90 ((Vx.k_rows.getD (Int.toNat a0) ((0 : Int), ((0 : Int), ((0 : Int), ((0 : Int), ()))))), (a1, ()))).2.2.1 == (0 : Int))) then
                  (bif (f90 ((Vx.k_rows.getD (Int.toNat a0) ((0 : Int), ((0 : Int), ((0 : Int), ((0 : Int), ()))))), (a1, ()))).1 then
                    (some ((Go.IntKind.wrap Go.IntKind.i64 ((11 : Int) - (6 : Int))), ((0 : Int), ())))
                  else some ((6 : Int), ((0 : Int), ())))
                else bif ((f90 ((Vx.k_rows.getD (Int.toNat a0) ((0 : Int), ((0 : Int), ((0 : Int), ((0 : Int), ()))))), (a1, ()))).2.1 == (0 : Int)) then
                  (bif (f90 ((Vx.k_rows.getD (Int.toNat a0) ((0 : Int), ((0 : Int), ((0 : Int), ((0 : Int), ()))))), (a1, ()))).1 then
                    (some ((Go.IntKind.wrap Go.IntKind.i64 ((11 : Int) - (7 : Int))), ((0 : Int), ())))
                  else some ((7 : Int), ((0 : Int), ())))
                else bif (f90 ((Vx.k_rows.getD (Int.toNat a0) ((0 : Int), ((0 : Int), ((0 : Int), ((0 : Int), ()))))), (a1, ()))).1 then
                  (some ((Go.IntKind.wrap Go.IntKind.i64 ((11 : Int) - (8 : Int))), ((0 : Int), ())))
                else some ((8 : Int), ((0 : Int), ())))
              else none)
            else none)
          else none)
        else none)
      else none)
    else none)
  else none
-- 35 nodes
theorem r65 (p66 : DenS I66 → Bool) (f66 : DenS I66 → DenS O66) (p90 : DenS I90 → Bool) (f90 : DenS I90 → DenS O90) (p91 : DenS I91 → Bool) (f91 : DenS I91 → DenS O91) (a0 : Den (.int .i64)) (a1 : Den (.int .u64)) :
    run { P := Go.Proofs.Tryd.prog, sums := [(66, ⟨I66, O66, p66, f66⟩), (90, ⟨I90, O90, p90, f90⟩), (91, ⟨I91, O91, p91, f91⟩)], loops := [], globs := G0 } 9 65 Go.Proofs.Tryd.f65 I65 O65 (a0, a1, ()) = t65 p66 f66 p90 f90 p91 f91 a0 a1 := by kernel_rfl
noncomputable def T65 (x : DenS I65) : Option (DenS O65) := t65 S66.pre S66.F S90.pre S90.F S91.pre S91.F x.1 x.2.1
noncomputable def C65 : Cfg := { P := Go.Proofs.Tryd.prog, sums := [(66, S66), (90, S90), (91, S91)], loops := [], globs := G0 }
noncomputable def S65 : Sum := sumOf I65 O65 T65 (DenS.dflt O65)
theorem S65_sound : Sound Go.Proofs.Tryd.prog G0 65 S65 :=
  fn_sound C65 9 65 Go.Proofs.Tryd.f65 mixedOk (by kernel_rfl) (by kernel_rfl) (by kernel_rfl) ⟨S66_sound, ⟨S90_sound, ⟨S91_sound, trivial⟩⟩⟩ trivial I65 O65 T65 _ fun x => r65 S66.pre S66.F S90.pre S90.F S91.pre S91.F x.1 x.2.1

/-- vernier/format.sign -/
abbrev I115 : Sig := [(false, .int .i64)]
abbrev O115 : Sig := [(false, .int .u64)]
def t115 (a0 : Den (.int .i64)) : Option (DenS O115) :=
  bif ((decide ((0 : Int) ≤ a0)) && (decide (a0 < ((4 : Nat) : Int)))) then
    (bif (decide ((0 : Int) ≤ (Go.IntKind.wrap Go.IntKind.i64 ((Vx.k_rows.getD (Int.toNat a0) ((0 : Int), ((0 : Int), ((0 : Int), ((0 : Int), ()))))).1 - (1 : Int))))) then
      (some ((Vx.shlI Go.IntKind.u64 (1 : Int) (Go.IntKind.wrap Go.IntKind.i64 ((Vx.k_rows.getD (Int.toNat a0) ((0 : Int), ((0 : Int), ((0 : Int), ((0 : Int), ()))))).1 - (1 : Int)))), ()))
    else none)
  else none
-- 5 nodes
theorem r115 (a0 : Den (.int .i64)) :
    run { P := Go.Proofs.Tryd.prog, sums := [], loops := [], globs := G0 } 9 115 Go.Proofs.Tryd.f115 I115 O115 (a0, ()) = t115 a0 := by kernel_rfl
noncomputable def T115 (x : DenS I115) : Option (DenS O115) := t115 x.1
noncomputable def C115 : Cfg := { P := Go.Proofs.Tryd.prog, sums := [], loops := [], globs := G0 }
noncomputable def S115 : Sum := sumOf I115 O115 T115 (DenS.dflt O115)
theorem S115_sound : Sound Go.Proofs.Tryd.prog G0 115 S115 :=
  fn_sound C115 9 115 Go.Proofs.Tryd.f115 mixedOk (by kernel_rfl) (by kernel_rfl) (by kernel_rfl) trivial trivial I115 O115 T115 _ fun x => r115 x.1

/-- vernier/format.Abs -/
abbrev I112 : Sig := [(false, .int .i64), (false, .int .u64)]
abbrev O112 : Sig := [(false, .int .u64), (false, .int .i64)]
def t112 (p66 : DenS I66 → Bool) (f66 : DenS I66 → DenS O66) (p115 : DenS I115 → Bool) (f115 : DenS I115 → DenS O115) (a0 : Den (.int .i64)) (a1 : Den (.int .u64)) : Option (DenS O112) :=
  bif (p66 (a0, (a1, ()))) then
    (bif ((f66 (a0, (a1, ()))).1 != (0 : Int)) then
      (some ((0 : Int), (f66 (a0, (a1, ())))))
    else bif (p115 (a0, ())) then
      (some ((Vx.andNotI Go.IntKind.u64 a1 (f115 (a0, ())).1), ((0 : Int), ())))
    else none)
  else none
-- 7 nodes
theorem r112 (p66 : DenS I66 → Bool) (f66 : DenS I66 → DenS O66) (p115 : DenS I115 → Bool) (f115 : DenS I115 → DenS O115) (a0 : Den (.int .i64)) (a1 : Den (.int .u64)) :
    run { P := Go.Proofs.Tryd.prog, sums := [(66, ⟨I66, O66, p66, f66⟩), (115, ⟨I115, O115, p115, f115⟩)], loops := [], globs := G0 } 9 112 Go.Proofs.Tryd.f112 I112 O112 (a0, a1, ()) = t112 p66 f66 p115 f115 a0 a1 := by kernel_rfl
noncomputable def T112 (x : DenS I112) : Option (DenS O112) := t112 S66.pre S66.F S115.pre S115.F x.1 x.2.1
noncomputable def C112 : Cfg := { P := Go.Proofs.Tryd.prog, sums := [(66, S66), (115, S115)], loops := [], globs := G0 }
noncomputable def S112 : Sum := sumOf I112 O112 T112 (DenS.dflt O112)
theorem S112_sound : Sound Go.Proofs.Tryd.prog G0 112 S112 :=
  fn_sound C112 9 112 Go.Proofs.Tryd.f112 mixedOk (by kernel_rfl) (by kernel_rfl) (by kernel_rfl) ⟨S66_sound, ⟨S115_sound, trivial⟩⟩ trivial I112 O112 T112 _ fun x => r112 S66.pre S66.F S115.pre S115.F x.1 x.2.1

/-- vernier/order.open -/
abbrev I82 : Sig := [(false, .int .i64), (false, .int .u64)]
abbrev O82 : Sig := [(true, .pair (.int .i64) (.pair (.int .i64) (.unit))), (false, .int .i64)]
def t82 (p65 : DenS I65 → Bool) (f65 : DenS I65 → DenS O65) (p112 : DenS I112 → Bool) (f112 : DenS I112 → DenS O112) (a0 : Den (.int .i64)) (a1 : Den (.int .u64)) : Option (DenS O82) :=
  bif (p65 (a0, (a1, ()))) then
    (bif ((f65 (a0, (a1, ()))).2.1 != (0 : Int)) then
      (some (((0 : Int), ((0 : Int), ())), (f65 (a0, (a1, ()))).2))
    else bif (p112 (a0, (a1, ()))) then
      (bif ((f112 (a0, (a1, ()))).1 != a1) then
        (some (((f65 (a0, (a1, ()))).1, ((Go.IntKind.wrap Go.IntKind.i64 ((0 : Int) - (Go.IntKind.wrap Go.IntKind.i64 (f112 (a0, (a1, ()))).1))), ())), ((0 : Int), ())))
      else some (((f65 (a0, (a1, ()))).1, ((Go.IntKind.wrap Go.IntKind.i64 (f112 (a0, (a1, ()))).1), ())), ((0 : Int), ())))
    else none)
  else none
-- 9 nodes
theorem r82 (p65 : DenS I65 → Bool) (f65 : DenS I65 → DenS O65) (p112 : DenS I112 → Bool) (f112 : DenS I112 → DenS O112) (a0 : Den (.int .i64)) (a1 : Den (.int .u64)) :
    run { P := Go.Proofs.Tryd.prog, sums := [(65, ⟨I65, O65, p65, f65⟩), (112, ⟨I112, O112, p112, f112⟩)], loops := [], globs := G0 } 9 82 Go.Proofs.Tryd.f82 I82 O82 (a0, a1, ()) = t82 p65 f65 p112 f112 a0 a1 := by kernel_rfl
noncomputable def T82 (x : DenS I82) : Option (DenS O82) := t82 S65.pre S65.F S112.pre S112.F x.1 x.2.1
noncomputable def C82 : Cfg := { P := Go.Proofs.Tryd.prog, sums := [(65, S65), (112, S112)], loops := [], globs := G0 }
noncomputable def S82 : Sum := sumOf I82 O82 T82 (DenS.dflt O82)
theorem S82_sound : Sound Go.Proofs.Tryd.prog G0 82 S82 :=
  fn_sound C82 9 82 Go.Proofs.Tryd.f82 mixedOk (by kernel_rfl) (by kernel_rfl) (by kernel_rfl) ⟨S65_sound, ⟨S112_sound, trivial⟩⟩ trivial I82 O82 T82 _ fun x => r82 S65.pre S65.F S112.pre S112.F x.1 x.2.1

/-- vernier/order.both -/
abbrev I52 : Sig := [(false, .int .i64), (false, .int .u64), (false, .int .u64)]
abbrev O52 : Sig := [(true, .pair (.int .i64) (.pair (.int .i64) (.unit))), (true, .pair (.int .i64) (.pair (.int .i64) (.unit))), (false, .int .i64)]
def t52 (p82 : DenS I82 → Bool) (f82 : DenS I82 → DenS O82) (a0 : Den (.int .i64)) (a1 : Den (.int .u64)) (a2 : Den (.int .u64)) : Option (DenS O52) :=
  bif (p82 (a0, (a1, ()))) then
    (bif ((f82 (a0, (a1, ()))).2.1 != (0 : Int)) then
      (some ((f82 (a0, (a1, ()))).1, (((0 : Int), ((0 : Int), ())), (f82 (a0, (a1, ()))).2)))
    else bif (p82 (a0, (a2, ()))) then
      (some ((f82 (a0, (a1, ()))).1, (f82 (a0, (a2, ())))))
    else none)
  else none
-- 7 nodes
theorem r52 (p82 : DenS I82 → Bool) (f82 : DenS I82 → DenS O82) (a0 : Den (.int .i64)) (a1 : Den (.int .u64)) (a2 : Den (.int .u64)) :
    run { P := Go.Proofs.Tryd.prog, sums := [(82, ⟨I82, O82, p82, f82⟩)], loops := [], globs := G0 } 9 52 Go.Proofs.Tryd.f52 I52 O52 (a0, a1, a2, ()) = t52 p82 f82 a0 a1 a2 := by kernel_rfl
noncomputable def T52 (x : DenS I52) : Option (DenS O52) := t52 S82.pre S82.F x.1 x.2.1 x.2.2.1
noncomputable def C52 : Cfg := { P := Go.Proofs.Tryd.prog, sums := [(82, S82)], loops := [], globs := G0 }
noncomputable def S52 : Sum := sumOf I52 O52 T52 (DenS.dflt O52)
theorem S52_sound : Sound Go.Proofs.Tryd.prog G0 52 S52 :=
  fn_sound C52 9 52 Go.Proofs.Tryd.f52 mixedOk (by kernel_rfl) (by kernel_rfl) (by kernel_rfl) ⟨S82_sound, trivial⟩ trivial I52 O52 T52 _ fun x => r52 S82.pre S82.F x.1 x.2.1 x.2.2.1

/-- (vernier/order.operand).nan -/
abbrev I53 : Sig := [(true, .pair (.int .i64) (.pair (.int .i64) (.unit)))]
abbrev O53 : Sig := [(false, .bool)]
def t53 (a0 : Den (.pair (.int .i64) (.pair (.int .i64) (.unit)))) : Option (DenS O53) :=
  some (((a0.1 == (1 : Int)) || (a0.1 == (0 : Int))), ())
-- 1 nodes
theorem r53 (a0 : Den (.pair (.int .i64) (.pair (.int .i64) (.unit)))) :
    run { P := Go.Proofs.Tryd.prog, sums := [], loops := [], globs := G0 } 9 53 Go.Proofs.Tryd.f53 I53 O53 (a0, ()) = t53 a0 := by kernel_rfl
noncomputable def T53 (x : DenS I53) : Option (DenS O53) := t53 x.1
noncomputable def C53 : Cfg := { P := Go.Proofs.Tryd.prog, sums := [], loops := [], globs := G0 }
noncomputable def S53 : Sum := sumOf I53 O53 T53 (DenS.dflt O53)
theorem S53_sound : Sound Go.Proofs.Tryd.prog G0 53 S53 :=
  fn_sound C53 9 53 Go.Proofs.Tryd.f53 mixedOk (by kernel_rfl) (by kernel_rfl) (by kernel_rfl) trivial trivial I53 O53 T53 _ fun x => r53 x.1

/-- vernier/order.loud -/
abbrev I54 : Sig := [(true, .pair (.int .i64) (.pair (.int .i64) (.unit))), (true, .pair (.int .i64) (.pair (.int .i64) (.unit)))]
abbrev O54 : Sig := [(false, .int .i64)]
def t54 (a0 : Den (.pair (.int .i64) (.pair (.int .i64) (.unit)))) (a1 : Den (.pair (.int .i64) (.pair (.int .i64) (.unit)))) : Option (DenS O54) :=
  bif ((a0.1 == (0 : Int)) || (a1.1 == (0 : Int))) then
    (some ((1 : Int), ()))
  else some ((0 : Int), ())
-- 3 nodes
theorem r54 (a0 : Den (.pair (.int .i64) (.pair (.int .i64) (.unit)))) (a1 : Den (.pair (.int .i64) (.pair (.int .i64) (.unit)))) :
    run { P := Go.Proofs.Tryd.prog, sums := [], loops := [], globs := G0 } 9 54 Go.Proofs.Tryd.f54 I54 O54 (a0, a1, ()) = t54 a0 a1 := by kernel_rfl
noncomputable def T54 (x : DenS I54) : Option (DenS O54) := t54 x.1 x.2.1
noncomputable def C54 : Cfg := { P := Go.Proofs.Tryd.prog, sums := [], loops := [], globs := G0 }
noncomputable def S54 : Sum := sumOf I54 O54 T54 (DenS.dflt O54)
theorem S54_sound : Sound Go.Proofs.Tryd.prog G0 54 S54 :=
  fn_sound C54 9 54 Go.Proofs.Tryd.f54 mixedOk (by kernel_rfl) (by kernel_rfl) (by kernel_rfl) trivial trivial I54 O54 T54 _ fun x => r54 x.1 x.2.1

/-- vernier/order.Compare -/
abbrev I14 : Sig := [(false, .int .i64), (false, .int .u64), (false, .int .u64), (false, .bool)]
abbrev O14 : Sig := [(false, .int .i64), (false, .int .i64), (false, .int .i64)]
def t14 (p52 : DenS I52 → Bool) (f52 : DenS I52 → DenS O52) (p53 : DenS I53 → Bool) (f53 : DenS I53 → DenS O53) (p54 : DenS I54 → Bool) (f54 : DenS I54 → DenS O54) (a0 : Den (.int .i64)) (a1 : Den (.int .u64)) (a2 : Den (.int .u64)) (a3 : Den (.bool)) : Option (DenS O14) :=
  bif (p52 (a0, (a1, (a2, ())))) then
    (bif ((f52 (a0, (a1, (a2, ())))).2.2.1 != (0 : Int)) then
      (some ((0 : Int), ((0 : Int), (f52 (a0, (a1, (a2, ())))).2.2)))
    else bif (p53 ((f52 (a0, (a1, (a2, ())))).1, ())) then
      (bif ((p53 ((f52 (a0, (a1, (a2, ())))).2.1, ())) || (!(bif (f53 ((f52 (a0, (a1, (a2, ())))).1, ())).1 then false else true))) then
        (bif ((f53 ((f52 (a0, (a1, (a2, ())))).1, ())).1 || (f53 ((f52 (a0, (a1, (a2, ())))).2.1, ())).1) then
          (bif (p54 ((f52 (a0, (a1, (a2, ())))).1, ((f52 (a0, (a1, (a2, ())))).2.1, ()))) then
            (bif a3 then
              (some ((3 : Int), ((1 : Int), ((0 : Int), ()))))
            else some ((3 : Int), ((f54 ((f52 (a0, (a1, (a2, ())))).1, ((f52 (a0, (a1, (a2, ())))).2.1, ()))).1, ((0 : Int), ()))))
          else none)
        else bif (decide ((f52 (a0, (a1, (a2, ())))).1.2.1 < (f52 (a0, (a1, (a2, ())))).2.1.2.1)) then
          (some ((0 : Int), ((0 : Int), ((0 : Int), ()))))
        else bif (decide ((f52 (a0, (a1, (a2, ())))).1.2.1 > (f52 (a0, (a1, (a2, ())))).2.1.2.1)) then
          (some ((2 : Int), ((0 : Int), ((0 : Int), ()))))
        else some ((1 : Int), ((0 : Int), ((0 : Int), ()))))
      else none)
    else none)
  else none
-- 19 nodes
theorem r14 (p52 : DenS I52 → Bool) (f52 : DenS I52 → DenS O52) (p53 : DenS I53 → Bool) (f53 : DenS I53 → DenS O53) (p54 : DenS I54 → Bool) (f54 : DenS I54 → DenS O54) (a0 : Den (.int .i64)) (a1 : Den (.int .u64)) (a2 : Den (.int .u64)) (a3 : Den (.bool)) :
    run { P := Go.Proofs.Tryd.prog, sums := [(52, ⟨I52, O52, p52, f52⟩), (53, ⟨I53, O53, p53, f53⟩), (54, ⟨I54, O54, p54, f54⟩)], loops := [], globs := G0 } 9 14 Go.Proofs.Tryd.f14 I14 O14 (a0, a1, a2, a3, ()) = t14 p52 f52 p53 f53 p54 f54 a0 a1 a2 a3 := by kernel_rfl
noncomputable def T14 (x : DenS I14) : Option (DenS O14) := t14 S52.pre S52.F S53.pre S53.F S54.pre S54.F x.1 x.2.1 x.2.2.1 x.2.2.2.1
noncomputable def C14 : Cfg := { P := Go.Proofs.Tryd.prog, sums := [(52, S52), (53, S53), (54, S54)], loops := [], globs := G0 }
noncomputable def S14 : Sum := sumOf I14 O14 T14 (DenS.dflt O14)
theorem S14_sound : Sound Go.Proofs.Tryd.prog G0 14 S14 :=
  fn_sound C14 9 14 Go.Proofs.Tryd.f14 mixedOk (by kernel_rfl) (by kernel_rfl) (by kernel_rfl) ⟨S52_sound, ⟨S53_sound, ⟨S54_sound, trivial⟩⟩⟩ trivial I14 O14 T14 _ fun x => r14 S52.pre S52.F S53.pre S53.F S54.pre S54.F x.1 x.2.1 x.2.2.1 x.2.2.2.1

/-- vernier/vernierref04.Row -/
abbrev I131 : Sig := [(false, .int .i64)]
abbrev O131 : Sig := [(true, .pair (.int .i64) (.pair (.int .i64) (.pair (.int .i64) (.pair (.int .i64) (.unit))))), (false, .bool)]
def t131 (a0 : Den (.int .i64)) : Option (DenS O131) :=
  bif (a0 == (0 : Int)) then
    (some (((16 : Int), ((11 : Int), ((-(14 : Int)), ((15 : Int), ())))), (true, ())))
  else bif (a0 == (1 : Int)) then
    (some (((16 : Int), ((8 : Int), ((-(126 : Int)), ((127 : Int), ())))), (true, ())))
  else bif (a0 == (2 : Int)) then
    (some (((32 : Int), ((24 : Int), ((-(126 : Int)), ((127 : Int), ())))), (true, ())))
  else bif (a0 == (3 : Int)) then
    (some (((64 : Int), ((53 : Int), ((-(1022 : Int)), ((1023 : Int), ())))), (true, ())))
  else some (((0 : Int), ((0 : Int), ((0 : Int), ((0 : Int), ())))), (false, ()))
-- 9 nodes
theorem r131 (a0 : Den (.int .i64)) :
    run { P := Go.Proofs.Tryd.prog, sums := [], loops := [], globs := G0 } 9 131 Go.Proofs.Tryd.f131 I131 O131 (a0, ()) = t131 a0 := by kernel_rfl
noncomputable def T131 (x : DenS I131) : Option (DenS O131) := t131 x.1
noncomputable def C131 : Cfg := { P := Go.Proofs.Tryd.prog, sums := [], loops := [], globs := G0 }
noncomputable def S131 : Sum := sumOf I131 O131 T131 (DenS.dflt O131)
theorem S131_sound : Sound Go.Proofs.Tryd.prog G0 131 S131 :=
  fn_sound C131 9 131 Go.Proofs.Tryd.f131 mixedOk (by kernel_rfl) (by kernel_rfl) (by kernel_rfl) trivial trivial I131 O131 T131 _ fun x => r131 x.1

/-- vernier/vernierref04.Check -/
abbrev I108 : Sig := [(false, .int .i64), (false, .int .u64)]
abbrev O108 : Sig := [(false, .int .i64)]
def t108 (p131 : DenS I131 → Bool) (f131 : DenS I131 → DenS O131) (a0 : Den (.int .i64)) (a1 : Den (.int .u64)) : Option (DenS O108) :=
  bif (p131 (a0, ())) then
    (bif (!(f131 (a0, ())).2.1) then
      (some ((2 : Int), ()))
    else bif ((decide ((f131 (a0, ())).1.1 < (64 : Int))) && ((Vx.shrI Go.IntKind.u64 a1 (Go.IntKind.wrap Go.IntKind.u64 (f131 (a0, ())).1.1)) != (0 : Int))) then
      (some ((4 : Int), ()))
    else some ((0 : Int), ()))
  else none
-- 7 nodes
theorem r108 (p131 : DenS I131 → Bool) (f131 : DenS I131 → DenS O131) (a0 : Den (.int .i64)) (a1 : Den (.int .u64)) :
    run { P := Go.Proofs.Tryd.prog, sums := [(131, ⟨I131, O131, p131, f131⟩)], loops := [], globs := G0 } 9 108 Go.Proofs.Tryd.f108 I108 O108 (a0, a1, ()) = t108 p131 f131 a0 a1 := by kernel_rfl
noncomputable def T108 (x : DenS I108) : Option (DenS O108) := t108 S131.pre S131.F x.1 x.2.1
noncomputable def C108 : Cfg := { P := Go.Proofs.Tryd.prog, sums := [(131, S131)], loops := [], globs := G0 }
noncomputable def S108 : Sum := sumOf I108 O108 T108 (DenS.dflt O108)
theorem S108_sound : Sound Go.Proofs.Tryd.prog G0 108 S108 :=
  fn_sound C108 9 108 Go.Proofs.Tryd.f108 mixedOk (by kernel_rfl) (by kernel_rfl) (by kernel_rfl) ⟨S131_sound, trivial⟩ trivial I108 O108 T108 _ fun x => r108 S131.pre S131.F x.1 x.2.1

/-- vernier/vernierref13.both -/
abbrev I55 : Sig := [(false, .int .i64), (false, .int .u64), (false, .int .u64)]
abbrev O55 : Sig := [(false, .int .i64)]
def t55 (p108 : DenS I108 → Bool) (f108 : DenS I108 → DenS O108) (a0 : Den (.int .i64)) (a1 : Den (.int .u64)) (a2 : Den (.int .u64)) : Option (DenS O55) :=
  bif (p108 (a0, (a1, ()))) then
    (bif ((f108 (a0, (a1, ()))).1 != (0 : Int)) then
      (some (f108 (a0, (a1, ()))))
    else bif (p108 (a0, (a2, ()))) then
      (some (f108 (a0, (a2, ()))))
    else none)
  else none
-- 7 nodes
theorem r55 (p108 : DenS I108 → Bool) (f108 : DenS I108 → DenS O108) (a0 : Den (.int .i64)) (a1 : Den (.int .u64)) (a2 : Den (.int .u64)) :
    run { P := Go.Proofs.Tryd.prog, sums := [(108, ⟨I108, O108, p108, f108⟩)], loops := [], globs := G0 } 9 55 Go.Proofs.Tryd.f55 I55 O55 (a0, a1, a2, ()) = t55 p108 f108 a0 a1 a2 := by kernel_rfl
noncomputable def T55 (x : DenS I55) : Option (DenS O55) := t55 S108.pre S108.F x.1 x.2.1 x.2.2.1
noncomputable def C55 : Cfg := { P := Go.Proofs.Tryd.prog, sums := [(108, S108)], loops := [], globs := G0 }
noncomputable def S55 : Sum := sumOf I55 O55 T55 (DenS.dflt O55)
theorem S55_sound : Sound Go.Proofs.Tryd.prog G0 55 S55 :=
  fn_sound C55 9 55 Go.Proofs.Tryd.f55 mixedOk (by kernel_rfl) (by kernel_rfl) (by kernel_rfl) ⟨S108_sound, trivial⟩ trivial I55 O55 T55 _ fun x => r55 S108.pre S108.F x.1 x.2.1 x.2.2.1

/-- vernier/vernierref04.Parts -/
abbrev I113 : Sig := [(false, .int .i64), (false, .int .u64)]
abbrev O113 : Sig := [(false, .int .u64), (false, .int .u64), (false, .int .u64), (false, .int .u64)]
def t113 (p131 : DenS I131 → Bool) (f131 : DenS I131 → DenS O131) (a0 : Den (.int .i64)) (a1 : Den (.int .u64)) : Option (DenS O113) :=
  bif (p131 (a0, ())) then
    (bif ((Vx.shlI Go.IntKind.u64 (1 : Int) (Go.IntKind.wrap Go.IntKind.u64 (Go.IntKind.wrap Go.IntKind.i64 ((f131 (a0, ())).1.2.1 - (1 : Int))))) != (0 : Int)) then
      (some ((Vx.andI Go.IntKind.u64 (Vx.shrI Go.IntKind.u64 a1 (Go.IntKind.wrap Go.IntKind.u64 (Go.IntKind.wrap Go.IntKind.i64 ((f131 (a0, ())).1.1 - (1 : Int))))) (1 : Int)), ((Vx.andI Go.IntKind.u64 (Vx.shrI Go.IntKind.u64 a1 (Go.IntKind.wrap Go.IntKind.u64 (Go.IntKind.wrap Go.IntKind.i64 ((f131 (a0, ())).1.2.1 - (1 : Int))))) (Go.IntKind.wrap Go.IntKind.u64 (Go.IntKind.wrap Go.IntKind.i64 ((Go.IntKind.wrap Go.IntKind.i64 ((2 : Int) * (f131 (a0, ())).1.2.2.2.1)) + (1 : Int))))), ((Int.tmod a1 (Vx.shlI Go.IntKind.u64 (1 : Int) (Go.IntKind.wrap Go.IntKind.u64 (Go.IntKind.wrap Go.IntKind.i64 ((f131 (a0, ())).1.2.1 - (1 : Int)))))), ((Go.IntKind.wrap Go.IntKind.u64 (Go.IntKind.wrap Go.IntKind.i64 ((Go.IntKind.wrap Go.IntKind.i64 ((2 : Int) * (f131 (a0, ())).1.2.2.2.1)) + (1 : Int)))), ())))))
    else none)
  else none
-- 5 nodes
theorem r113 (p131 : DenS I131 → Bool) (f131 : DenS I131 → DenS O131) (a0 : Den (.int .i64)) (a1 : Den (.int .u64)) :
    run { P := Go.Proofs.Tryd.prog, sums := [(131, ⟨I131, O131, p131, f131⟩)], loops := [], globs := G0 } 9 113 Go.Proofs.Tryd.f113 I113 O113 (a0, a1, ()) = t113 p131 f131 a0 a1 := by kernel_rfl
noncomputable def T113 (x : DenS I113) : Option (DenS O113) := t113 S131.pre S131.F x.1 x.2.1
noncomputable def C113 : Cfg := { P := Go.Proofs.Tryd.prog, sums := [(131, S131)], loops := [], globs := G0 }
noncomputable def S113 : Sum := sumOf I113 O113 T113 (DenS.dflt O113)
theorem S113_sound : Sound Go.Proofs.Tryd.prog G0 113 S113 :=
  fn_sound C113 9 113 Go.Proofs.Tryd.f113 mixedOk (by kernel_rfl) (by kernel_rfl) (by kernel_rfl) ⟨S131_sound, trivial⟩ trivial I113 O113 T113 _ fun x => r113 S131.pre S131.F x.1 x.2.1

/-- vernier/vernierref04.IsNaN -/
abbrev I109 : Sig := [(false, .int .i64), (false, .int .u64)]
abbrev O109 : Sig := [(false, .bool)]
def t109 (p113 : DenS I113 → Bool) (f113 : DenS I113 → DenS O113) (a0 : Den (.int .i64)) (a1 : Den (.int .u64)) : Option (DenS O109) :=
  bif (p113 (a0, (a1, ()))) then
    (some ((((f113 (a0, (a1, ()))).2.1 == (f113 (a0, (a1, ()))).2.2.2.1) && ((f113 (a0, (a1, ()))).2.2.1 != (0 : Int))), ()))
  else none
-- 3 nodes
theorem r109 (p113 : DenS I113 → Bool) (f113 : DenS I113 → DenS O113) (a0 : Den (.int .i64)) (a1 : Den (.int .u64)) :
    run { P := Go.Proofs.Tryd.prog, sums := [(113, ⟨I113, O113, p113, f113⟩)], loops := [], globs := G0 } 9 109 Go.Proofs.Tryd.f109 I109 O109 (a0, a1, ()) = t109 p113 f113 a0 a1 := by kernel_rfl
noncomputable def T109 (x : DenS I109) : Option (DenS O109) := t109 S113.pre S113.F x.1 x.2.1
noncomputable def C109 : Cfg := { P := Go.Proofs.Tryd.prog, sums := [(113, S113)], loops := [], globs := G0 }
noncomputable def S109 : Sum := sumOf I109 O109 T109 (DenS.dflt O109)
theorem S109_sound : Sound Go.Proofs.Tryd.prog G0 109 S109 :=
  fn_sound C109 9 109 Go.Proofs.Tryd.f109 mixedOk (by kernel_rfl) (by kernel_rfl) (by kernel_rfl) ⟨S113_sound, trivial⟩ trivial I109 O109 T109 _ fun x => r109 S113.pre S113.F x.1 x.2.1

/-- vernier/vernierref04.Signals -/
abbrev I110 : Sig := [(false, .int .i64), (false, .int .u64)]
abbrev O110 : Sig := [(false, .bool)]
def t110 (p131 : DenS I131 → Bool) (f131 : DenS I131 → DenS O131) (p113 : DenS I113 → Bool) (f113 : DenS I113 → DenS O113) (p109 : DenS I109 → Bool) (f109 : DenS I109 → DenS O109) (a0 : Den (.int .i64)) (a1 : Den (.int .u64)) : Option (DenS O110) :=
  bif (p131 (a0, ())) then
    (bif (p113 (a0, (a1, ()))) then
      (bif (p109 (a0, (a1, ()))) then
        (some (((f109 (a0, (a1, ()))).1 && ((Vx.shrI Go.IntKind.u64 (f113 (a0, (a1, ()))).2.2.1 (Go.IntKind.wrap Go.IntKind.u64 (Go.IntKind.wrap Go.IntKind.i64 ((f131 (a0, ())).1.2.1 - (2 : Int))))) == (0 : Int))), ()))
      else none)
    else none)
  else none
-- 7 nodes
theorem r110 (p131 : DenS I131 → Bool) (f131 : DenS I131 → DenS O131) (p113 : DenS I113 → Bool) (f113 : DenS I113 → DenS O113) (p109 : DenS I109 → Bool) (f109 : DenS I109 → DenS O109) (a0 : Den (.int .i64)) (a1 : Den (.int .u64)) :
    run { P := Go.Proofs.Tryd.prog, sums := [(131, ⟨I131, O131, p131, f131⟩), (113, ⟨I113, O113, p113, f113⟩), (109, ⟨I109, O109, p109, f109⟩)], loops := [], globs := G0 } 9 110 Go.Proofs.Tryd.f110 I110 O110 (a0, a1, ()) = t110 p131 f131 p113 f113 p109 f109 a0 a1 := by kernel_rfl
noncomputable def T110 (x : DenS I110) : Option (DenS O110) := t110 S131.pre S131.F S113.pre S113.F S109.pre S109.F x.1 x.2.1
noncomputable def C110 : Cfg := { P := Go.Proofs.Tryd.prog, sums := [(131, S131), (113, S113), (109, S109)], loops := [], globs := G0 }
noncomputable def S110 : Sum := sumOf I110 O110 T110 (DenS.dflt O110)
theorem S110_sound : Sound Go.Proofs.Tryd.prog G0 110 S110 :=
  fn_sound C110 9 110 Go.Proofs.Tryd.f110 mixedOk (by kernel_rfl) (by kernel_rfl) (by kernel_rfl) ⟨S131_sound, ⟨S113_sound, ⟨S109_sound, trivial⟩⟩⟩ trivial I110 O110 T110 _ fun x => r110 S131.pre S131.F S113.pre S113.F S109.pre S109.F x.1 x.2.1

/-- vernier/vernierref07.NaNs -/
abbrev I56 : Sig := [(false, .int .i64), (false, .slice (.int .u64))]
abbrev O56 : Sig := [(false, .bool), (false, .int .i64)]
abbrev P56_3 : Pat := ⟨28, [(11, .one (.v .i64)), (10, .one (.sl (.int .u64))), (0, .one (.v .i64)), (12, .one (.v .i64)), (6, .one (.bool)), (7, .one (.v .i64))], []⟩
abbrev A56_3 : List (Nat × Shape) := []
abbrev X56_3 : List (Nat × Pat) := [(0, ⟨28, [(6, .one (.bool)), (7, .one (.v .i64))], []⟩)]
abbrev Q56_3 : Option Pat := none
def h56_3 (p109 : DenS I109 → Bool) (f109 : DenS I109 → DenS O109) (p110 : DenS I110 → Bool) (f110 : DenS I110 → DenS O110) {R : Type} (L : Pat.D P56_3 → Option R) (e : OutT X56_3 Q56_3 → Option R) (x : Pat.D P56_3) : Option R :=
  bif (decide (x.1.2.2.2.1 < x.1.1)) then
    (bif ((decide ((0 : Int) ≤ x.1.2.2.2.1)) && (decide (x.1.2.2.2.1 < (x.1.2.1.length : Int)))) then
      (bif ((p109 (x.1.2.2.1, ((x.1.2.1.getD (Int.toNat x.1.2.2.2.1) (0 : Int)), ()))) || (!(bif x.1.2.2.2.2.1 then false else true))) then
        (bif (p110 (x.1.2.2.1, ((x.1.2.1.getD (Int.toNat x.1.2.2.2.1) (0 : Int)), ()))) then
          (bif (f110 (x.1.2.2.1, ((x.1.2.1.getD (Int.toNat x.1.2.2.2.1) (0 : Int)), ()))).1 then
            ((L ((x.1.1, (x.1.2.1, (x.1.2.2.1, ((Go.IntKind.wrap Go.IntKind.i64 (x.1.2.2.2.1 + (1 : Int))), ((x.1.2.2.2.2.1 || (f109 (x.1.2.2.1, ((x.1.2.1.getD (Int.toNat x.1.2.2.2.1) (0 : Int)), ()))).1), ((1 : Int), ())))))), ())))
          else (L ((x.1.1, (x.1.2.1, (x.1.2.2.1, ((Go.IntKind.wrap Go.IntKind.i64 (x.1.2.2.2.1 + (1 : Int))), ((x.1.2.2.2.2.1 || (f109 (x.1.2.2.1, ((x.1.2.1.getD (Int.toNat x.1.2.2.2.1) (0 : Int)), ()))).1), x.1.2.2.2.2.2))))), ())))
        else none)
      else none)
    else none)
  else (e (.inl (x.1.2.2.2.2, ())))
-- 11 nodes
theorem s56_3 (p109 : DenS I109 → Bool) (f109 : DenS I109 → DenS O109) (p110 : DenS I110 → Bool) (f110 : DenS I110 → DenS O110) (w56_3 : Pat.D P56_3 → Option (OutT X56_3 Q56_3)) (d : Nat) (R : Type) (L : Pat.D P56_3 → Option R) (e : OutT X56_3 Q56_3 → Option R) (x : Pat.D P56_3) :
    lStep { P := Go.Proofs.Tryd.prog, sums := [(109, ⟨I109, O109, p109, f109⟩), (110, ⟨I110, O110, p110, f110⟩)], loops := [(56, 3, LoopSpec.of P56_3 A56_3 X56_3 Q56_3 w56_3)], globs := G0 } (d + 2) 56 (bodyOf Go.Proofs.Tryd.f56 3) P56_3 A56_3 X56_3 Q56_3 (R := R) L e x = h56_3 p109 f109 p110 f110 L e x := by kernel_rfl
theorem m56_3 (p109 : DenS I109 → Bool) (f109 : DenS I109 → DenS O109) (p110 : DenS I110 → Bool) (f110 : DenS I110 → DenS O110) : Par fun L e x => h56_3 p109 f109 p110 f110 L e x := by
  intro A B rel L L' e e' h0 hL he x
  unfold h56_3
  repeat' (first | exact h0 | exact hL _ | exact he _ | apply rel_cond | (apply rel_obind h0; intro _) | (apply rel_obind2 <;> intro _))
def t56 (p109 : DenS I109 → Bool) (f109 : DenS I109 → DenS O109) (p110 : DenS I110 → Bool) (f110 : DenS I110 → DenS O110) (w56_3 : Pat.D P56_3 → Option (OutT X56_3 Q56_3)) (a0 : Den (.int .i64)) (a1 : Den (.slice (.int .u64))) : Option (DenS O56) :=
  Vx.obind (w56_3 (((a1.length : Int), (a1, (a0, ((0 : Int), (false, ((0 : Int), ())))))), ())) fun y0 =>
  Vx.obind2 y0 (fun y1 =>
  some y1.1) (fun z1 =>
  none)
-- 5 nodes
theorem r56 (p109 : DenS I109 → Bool) (f109 : DenS I109 → DenS O109) (p110 : DenS I110 → Bool) (f110 : DenS I110 → DenS O110) (w56_3 : Pat.D P56_3 → Option (OutT X56_3 Q56_3)) (a0 : Den (.int .i64)) (a1 : Den (.slice (.int .u64))) :
    run { P := Go.Proofs.Tryd.prog, sums := [(109, ⟨I109, O109, p109, f109⟩), (110, ⟨I110, O110, p110, f110⟩)], loops := [(56, 3, LoopSpec.of P56_3 A56_3 X56_3 Q56_3 w56_3)], globs := G0 } 9 56 Go.Proofs.Tryd.f56 I56 O56 (a0, a1, ()) = t56 p109 f109 p110 f110 w56_3 a0 a1 := by kernel_rfl
noncomputable def W56_3 : P56_3.D → Option (OutT X56_3 Q56_3) := lfix fun L => h56_3 S109.pre S109.F S110.pre S110.F L some
noncomputable def T56 (x : DenS I56) : Option (DenS O56) := t56 S109.pre S109.F S110.pre S110.F W56_3 x.1 x.2.1
noncomputable def C56 : Cfg := { P := Go.Proofs.Tryd.prog, sums := [(109, S109), (110, S110)], loops := [(56, 3, LoopSpec.of P56_3 A56_3 X56_3 Q56_3 W56_3)], globs := G0 }
noncomputable def S56 : Sum := sumOf I56 O56 T56 (DenS.dflt O56)
theorem S56_sound : Sound Go.Proofs.Tryd.prog G0 56 S56 :=
  fn_sound C56 9 56 Go.Proofs.Tryd.f56 mixedOk (by kernel_rfl) (by kernel_rfl) (by kernel_rfl) ⟨S109_sound, ⟨S110_sound, trivial⟩⟩ ⟨rfl, fun d => loopOk_of (fun L e x => h56_3 S109.pre S109.F S110.pre S110.F L e x) (m56_3 S109.pre S109.F S110.pre S110.F) (fun R L e x => s56_3 S109.pre S109.F S110.pre S110.F W56_3 d R L e x), trivial⟩ I56 O56 T56 _ fun x => r56 S109.pre S109.F S110.pre S110.F W56_3 x.1 x.2.1

/-- vernier/vernierref04.Plain -/
abbrev I153 : Sig := [(false, .int .i64), (false, .int .u64)]
abbrev O153 : Sig := [(false, .int .u64)]
def t153 (p131 : DenS I131 → Bool) (f131 : DenS I131 → DenS O131) (a0 : Den (.int .i64)) (a1 : Den (.int .u64)) : Option (DenS O153) :=
  bif (p131 (a0, ())) then
    (some ((Vx.andNotI Go.IntKind.u64 a1 (Vx.shlI Go.IntKind.u64 (1 : Int) (Go.IntKind.wrap Go.IntKind.u64 (Go.IntKind.wrap Go.IntKind.i64 ((f131 (a0, ())).1.1 - (1 : Int)))))), ()))
  else none
-- 3 nodes
theorem r153 (p131 : DenS I131 → Bool) (f131 : DenS I131 → DenS O131) (a0 : Den (.int .i64)) (a1 : Den (.int .u64)) :
    run { P := Go.Proofs.Tryd.prog, sums := [(131, ⟨I131, O131, p131, f131⟩)], loops := [], globs := G0 } 9 153 Go.Proofs.Tryd.f153 I153 O153 (a0, a1, ()) = t153 p131 f131 a0 a1 := by kernel_rfl
noncomputable def T153 (x : DenS I153) : Option (DenS O153) := t153 S131.pre S131.F x.1 x.2.1
noncomputable def C153 : Cfg := { P := Go.Proofs.Tryd.prog, sums := [(131, S131)], loops := [], globs := G0 }
noncomputable def S153 : Sum := sumOf I153 O153 T153 (DenS.dflt O153)
theorem S153_sound : Sound Go.Proofs.Tryd.prog G0 153 S153 :=
  fn_sound C153 9 153 Go.Proofs.Tryd.f153 mixedOk (by kernel_rfl) (by kernel_rfl) (by kernel_rfl) ⟨S131_sound, trivial⟩ trivial I153 O153 T153 _ fun x => r153 S131.pre S131.F x.1 x.2.1

/-- vernier/vernierref04.Sign -/
abbrev I59 : Sig := [(false, .int .i64), (false, .int .u64)]
abbrev O59 : Sig := [(false, .int .u64)]
def t59 (p113 : DenS I113 → Bool) (f113 : DenS I113 → DenS O113) (a0 : Den (.int .i64)) (a1 : Den (.int .u64)) : Option (DenS O59) :=
  bif (p113 (a0, (a1, ()))) then
    (some ((f113 (a0, (a1, ()))).1, ()))
  else none
-- 3 nodes
theorem r59 (p113 : DenS I113 → Bool) (f113 : DenS I113 → DenS O113) (a0 : Den (.int .i64)) (a1 : Den (.int .u64)) :
    run { P := Go.Proofs.Tryd.prog, sums := [(113, ⟨I113, O113, p113, f113⟩)], loops := [], globs := G0 } 9 59 Go.Proofs.Tryd.f59 I59 O59 (a0, a1, ()) = t59 p113 f113 a0 a1 := by kernel_rfl
noncomputable def T59 (x : DenS I59) : Option (DenS O59) := t59 S113.pre S113.F x.1 x.2.1
noncomputable def C59 : Cfg := { P := Go.Proofs.Tryd.prog, sums := [(113, S113)], loops := [], globs := G0 }
noncomputable def S59 : Sum := sumOf I59 O59 T59 (DenS.dflt O59)
theorem S59_sound : Sound Go.Proofs.Tryd.prog G0 59 S59 :=
  fn_sound C59 9 59 Go.Proofs.Tryd.f59 mixedOk (by kernel_rfl) (by kernel_rfl) (by kernel_rfl) ⟨S113_sound, trivial⟩ trivial I59 O59 T59 _ fun x => r59 S113.pre S113.F x.1 x.2.1

/-- vernier/vernierref13.rank -/
abbrev I111 : Sig := [(false, .int .i64), (false, .int .u64)]
abbrev O111 : Sig := [(false, .int .i64)]
def t111 (p153 : DenS I153 → Bool) (f153 : DenS I153 → DenS O153) (p59 : DenS I59 → Bool) (f59 : DenS I59 → DenS O59) (a0 : Den (.int .i64)) (a1 : Den (.int .u64)) : Option (DenS O111) :=
  bif (p153 (a0, (a1, ()))) then
    (bif (p59 (a0, (a1, ()))) then
      (bif ((f59 (a0, (a1, ()))).1 == (1 : Int)) then
        (some ((Go.IntKind.wrap Go.IntKind.i64 ((0 : Int) - (Go.IntKind.wrap Go.IntKind.i64 (f153 (a0, (a1, ()))).1))), ()))
      else some ((Go.IntKind.wrap Go.IntKind.i64 (f153 (a0, (a1, ()))).1), ()))
    else none)
  else none
-- 7 nodes
theorem r111 (p153 : DenS I153 → Bool) (f153 : DenS I153 → DenS O153) (p59 : DenS I59 → Bool) (f59 : DenS I59 → DenS O59) (a0 : Den (.int .i64)) (a1 : Den (.int .u64)) :
    run { P := Go.Proofs.Tryd.prog, sums := [(153, ⟨I153, O153, p153, f153⟩), (59, ⟨I59, O59, p59, f59⟩)], loops := [], globs := G0 } 9 111 Go.Proofs.Tryd.f111 I111 O111 (a0, a1, ()) = t111 p153 f153 p59 f59 a0 a1 := by kernel_rfl
noncomputable def T111 (x : DenS I111) : Option (DenS O111) := t111 S153.pre S153.F S59.pre S59.F x.1 x.2.1
noncomputable def C111 : Cfg := { P := Go.Proofs.Tryd.prog, sums := [(153, S153), (59, S59)], loops := [], globs := G0 }
noncomputable def S111 : Sum := sumOf I111 O111 T111 (DenS.dflt O111)
theorem S111_sound : Sound Go.Proofs.Tryd.prog G0 111 S111 :=
  fn_sound C111 9 111 Go.Proofs.Tryd.f111 mixedOk (by kernel_rfl) (by kernel_rfl) (by kernel_rfl) ⟨S153_sound, ⟨S59_sound, trivial⟩⟩ trivial I111 O111 T111 _ fun x => r111 S153.pre S153.F S59.pre S59.F x.1 x.2.1

/-- vernier/vernierref13.Cmp -/
abbrev I57 : Sig := [(false, .int .i64), (false, .int .u64), (false, .int .u64)]
abbrev O57 : Sig := [(false, .int .i64)]
def t57 (p111 : DenS I111 → Bool) (f111 : DenS I111 → DenS O111) (a0 : Den (.int .i64)) (a1 : Den (.int .u64)) (a2 : Den (.int .u64)) : Option (DenS O57) :=
  bif (p111 (a0, (a1, ()))) then
    (bif (p111 (a0, (a2, ()))) then
      (bif (decide ((f111 (a0, (a1, ()))).1 < (f111 (a0, (a2, ()))).1)) then
        (some ((-(1 : Int)), ()))
      else bif (decide ((f111 (a0, (a1, ()))).1 > (f111 (a0, (a2, ()))).1)) then
        (some ((1 : Int), ()))
      else some ((0 : Int), ()))
    else none)
  else none
-- 9 nodes
theorem r57 (p111 : DenS I111 → Bool) (f111 : DenS I111 → DenS O111) (a0 : Den (.int .i64)) (a1 : Den (.int .u64)) (a2 : Den (.int .u64)) :
    run { P := Go.Proofs.Tryd.prog, sums := [(111, ⟨I111, O111, p111, f111⟩)], loops := [], globs := G0 } 9 57 Go.Proofs.Tryd.f57 I57 O57 (a0, a1, a2, ()) = t57 p111 f111 a0 a1 a2 := by kernel_rfl
noncomputable def T57 (x : DenS I57) : Option (DenS O57) := t57 S111.pre S111.F x.1 x.2.1 x.2.2.1
noncomputable def C57 : Cfg := { P := Go.Proofs.Tryd.prog, sums := [(111, S111)], loops := [], globs := G0 }
noncomputable def S57 : Sum := sumOf I57 O57 T57 (DenS.dflt O57)
theorem S57_sound : Sound Go.Proofs.Tryd.prog G0 57 S57 :=
  fn_sound C57 9 57 Go.Proofs.Tryd.f57 mixedOk (by kernel_rfl) (by kernel_rfl) (by kernel_rfl) ⟨S111_sound, trivial⟩ trivial I57 O57 T57 _ fun x => r57 S111.pre S111.F x.1 x.2.1 x.2.2.1

/-- vernier/vernierref13.Compare -/
abbrev I15 : Sig := [(false, .int .i64), (false, .int .u64), (false, .int .u64), (false, .bool)]
abbrev O15 : Sig := [(false, .int .i64), (false, .int .i64), (false, .int .i64)]
def t15 (p55 : DenS I55 → Bool) (f55 : DenS I55 → DenS O55) (p56 : DenS I56 → Bool) (f56 : DenS I56 → DenS O56) (p57 : DenS I57 → Bool) (f57 : DenS I57 → DenS O57) (a0 : Den (.int .i64)) (a1 : Den (.int .u64)) (a2 : Den (.int .u64)) (a3 : Den (.bool)) : Option (DenS O15) :=
  bif (p55 (a0, (a1, (a2, ())))) then
    (bif ((f55 (a0, (a1, (a2, ())))).1 != (0 : Int)) then
      (some ((0 : Int), ((0 : Int), (f55 (a0, (a1, (a2, ())))))))
    else bif (p56 (a0, ((a1 :: (a2 :: [])), ()))) then
      (bif (f56 (a0, ((a1 :: (a2 :: [])), ()))).1 then
        (bif a3 then
          (some ((3 : Int), ((1 : Int), ((0 : Int), ()))))
        else some ((3 : Int), ((f56 (a0, ((a1 :: (a2 :: [])), ()))).2.1, ((0 : Int), ()))))
      else bif (p57 (a0, (a1, (a2, ())))) then
        (some ((Go.IntKind.wrap Go.IntKind.i64 ((f57 (a0, (a1, (a2, ())))).1 + (1 : Int))), ((0 : Int), ((0 : Int), ()))))
      else none)
    else none)
  else none
-- 13 nodes
theorem r15 (p55 : DenS I55 → Bool) (f55 : DenS I55 → DenS O55) (p56 : DenS I56 → Bool) (f56 : DenS I56 → DenS O56) (p57 : DenS I57 → Bool) (f57 : DenS I57 → DenS O57) (a0 : Den (.int .i64)) (a1 : Den (.int .u64)) (a2 : Den (.int .u64)) (a3 : Den (.bool)) :
    run { P := Go.Proofs.Tryd.prog, sums := [(55, ⟨I55, O55, p55, f55⟩), (56, ⟨I56, O56, p56, f56⟩), (57, ⟨I57, O57, p57, f57⟩)], loops := [], globs := G0 } 9 15 Go.Proofs.Tryd.f15 I15 O15 (a0, a1, a2, a3, ()) = t15 p55 f55 p56 f56 p57 f57 a0 a1 a2 a3 := by kernel_rfl
noncomputable def T15 (x : DenS I15) : Option (DenS O15) := t15 S55.pre S55.F S56.pre S56.F S57.pre S57.F x.1 x.2.1 x.2.2.1 x.2.2.2.1
noncomputable def C15 : Cfg := { P := Go.Proofs.Tryd.prog, sums := [(55, S55), (56, S56), (57, S57)], loops := [], globs := G0 }
noncomputable def S15 : Sum := sumOf I15 O15 T15 (DenS.dflt O15)
theorem S15_sound : Sound Go.Proofs.Tryd.prog G0 15 S15 :=
  fn_sound C15 9 15 Go.Proofs.Tryd.f15 mixedOk (by kernel_rfl) (by kernel_rfl) (by kernel_rfl) ⟨S55_sound, ⟨S56_sound, ⟨S57_sound, trivial⟩⟩⟩ trivial I15 O15 T15 _ fun x => r15 S55.pre S55.F S56.pre S56.F S57.pre S57.F x.1 x.2.1 x.2.2.1 x.2.2.2.1

/-- vernier/format.none -/
abbrev I116 : Sig := [(true, .pair (.int .i64) (.pair (.int .i64) (.pair (.int .i64) (.pair (.int .i64) (.unit)))))]
abbrev O116 : Sig := [(false, .int .u64)]
def t116 (a0 : Den (.pair (.int .i64) (.pair (.int .i64) (.pair (.int .i64) (.pair (.int .i64) (.unit)))))) : Option (DenS O116) :=
  some ((0 : Int), ())
-- 1 nodes
theorem r116 (a0 : Den (.pair (.int .i64) (.pair (.int .i64) (.pair (.int .i64) (.pair (.int .i64) (.unit)))))) :
    run { P := Go.Proofs.Tryd.prog, sums := [], loops := [], globs := G0 } 9 116 Go.Proofs.Tryd.f116 I116 O116 (a0, ()) = t116 a0 := by kernel_rfl
noncomputable def T116 (x : DenS I116) : Option (DenS O116) := t116 x.1
noncomputable def C116 : Cfg := { P := Go.Proofs.Tryd.prog, sums := [], loops := [], globs := G0 }
noncomputable def S116 : Sum := sumOf I116 O116 T116 (DenS.dflt O116)
theorem S116_sound : Sound Go.Proofs.Tryd.prog G0 116 S116 :=
  fn_sound C116 9 116 Go.Proofs.Tryd.f116 mixedOk (by kernel_rfl) (by kernel_rfl) (by kernel_rfl) trivial trivial I116 O116 T116 _ fun x => r116 x.1

/-- vernier/format.top -/
abbrev I117 : Sig := [(true, .pair (.int .i64) (.pair (.int .i64) (.pair (.int .i64) (.pair (.int .i64) (.unit)))))]
abbrev O117 : Sig := [(false, .int .u64)]
def t117 (a0 : Den (.pair (.int .i64) (.pair (.int .i64) (.pair (.int .i64) (.pair (.int .i64) (.unit)))))) : Option (DenS O117) :=
  bif (decide ((0 : Int) ≤ (Go.IntKind.wrap Go.IntKind.i64 (a0.2.1 - (2 : Int))))) then
    (some ((Vx.shlI Go.IntKind.u64 (1 : Int) (Go.IntKind.wrap Go.IntKind.i64 (a0.2.1 - (2 : Int)))), ()))
  else none
-- 3 nodes
theorem r117 (a0 : Den (.pair (.int .i64) (.pair (.int .i64) (.pair (.int .i64) (.pair (.int .i64) (.unit)))))) :
    run { P := Go.Proofs.Tryd.prog, sums := [], loops := [], globs := G0 } 9 117 Go.Proofs.Tryd.f117 I117 O117 (a0, ()) = t117 a0 := by kernel_rfl
noncomputable def T117 (x : DenS I117) : Option (DenS O117) := t117 x.1
noncomputable def C117 : Cfg := { P := Go.Proofs.Tryd.prog, sums := [], loops := [], globs := G0 }
noncomputable def S117 : Sum := sumOf I117 O117 T117 (DenS.dflt O117)
theorem S117_sound : Sound Go.Proofs.Tryd.prog G0 117 S117 :=
  fn_sound C117 9 117 Go.Proofs.Tryd.f117 mixedOk (by kernel_rfl) (by kernel_rfl) (by kernel_rfl) trivial trivial I117 O117 T117 _ fun x => r117 x.1

/-- vernier/format.join -/
abbrev I140 : Sig := [(true, .pair (.int .i64) (.pair (.int .i64) (.pair (.int .i64) (.pair (.int .i64) (.unit))))), (false, .bool), (false, .int .u64), (false, .int .u64)]
abbrev O140 : Sig := [(false, .int .u64)]
def t140 (a0 : Den (.pair (.int .i64) (.pair (.int .i64) (.pair (.int .i64) (.pair (.int .i64) (.unit)))))) (a1 : Den (.bool)) (a2 : Den (.int .u64)) (a3 : Den (.int .u64)) : Option (DenS O140) :=
  bif (decide ((0 : Int) ≤ (Go.IntKind.wrap Go.IntKind.i64 (a0.2.1 - (1 : Int))))) then
    (bif a1 then
      (bif (decide ((0 : Int) ≤ (Go.IntKind.wrap Go.IntKind.i64 (a0.1 - (1 : Int))))) then
        (some ((Vx.orI Go.IntKind.u64 (Vx.orI Go.IntKind.u64 (Vx.shlI Go.IntKind.u64 a2 (Go.IntKind.wrap Go.IntKind.i64 (a0.2.1 - (1 : Int)))) a3) (Vx.shlI Go.IntKind.u64 (1 : Int) (Go.IntKind.wrap Go.IntKind.i64 (a0.1 - (1 : Int))))), ()))
      else none)
    else some ((Vx.orI Go.IntKind.u64 (Vx.shlI Go.IntKind.u64 a2 (Go.IntKind.wrap Go.IntKind.i64 (a0.2.1 - (1 : Int)))) a3), ()))
  else none
-- 7 nodes
theorem r140 (a0 : Den (.pair (.int .i64) (.pair (.int .i64) (.pair (.int .i64) (.pair (.int .i64) (.unit)))))) (a1 : Den (.bool)) (a2 : Den (.int .u64)) (a3 : Den (.int .u64)) :
    run { P := Go.Proofs.Tryd.prog, sums := [], loops := [], globs := G0 } 9 140 Go.Proofs.Tryd.f140 I140 O140 (a0, a1, a2, a3, ()) = t140 a0 a1 a2 a3 := by kernel_rfl
noncomputable def T140 (x : DenS I140) : Option (DenS O140) := t140 x.1 x.2.1 x.2.2.1 x.2.2.2.1
noncomputable def C140 : Cfg := { P := Go.Proofs.Tryd.prog, sums := [], loops := [], globs := G0 }
noncomputable def S140 : Sum := sumOf I140 O140 T140 (DenS.dflt O140)
theorem S140_sound : Sound Go.Proofs.Tryd.prog G0 140 S140 :=
  fn_sound C140 9 140 Go.Proofs.Tryd.f140 mixedOk (by kernel_rfl) (by kernel_rfl) (by kernel_rfl) trivial trivial I140 O140 T140 _ fun x => r140 x.1 x.2.1 x.2.2.1 x.2.2.2.1

/-- vernier/format.NaN -/
abbrev I70 : Sig := [(false, .int .i64)]
abbrev O70 : Sig := [(false, .int .u64), (false, .int .i64)]
def t70 (p116 : DenS I116 → Bool) (f116 : DenS I116 → DenS O116) (p117 : DenS I117 → Bool) (f117 : DenS I117 → DenS O117) (p69 : DenS I69 → Bool) (f69 : DenS I69 → DenS O69) (p91 : DenS I91 → Bool) (f91 : DenS I91 → DenS O91) (p140 : DenS I140 → Bool) (f140 : DenS I140 → DenS O140) (a0 : Den (.int .i64)) : Option (DenS O70) :=
  bif (p69 (a0, ())) then
    (bif ((f69 (a0, ())).2.1 != (0 : Int)) then
      (some ((0 : Int), (f69 (a0, ())).2))
    else bif (p91 ((Go.IntKind.wrap Go.IntKind.i64 ((f69 (a0, ())).1.1 - (f69 (a0, ())).1.2.1)), ())) then
      (bif (p116 ((f69 (a0, ())).1, ())) then
        (bif (p117 ((f69 (a0, ())).1, ())) then
          (bif (p140 ((f69 (a0, ())).1, (false, ((Go.IntKind.wrap Go.IntKind.u64 ((f91 ((Go.IntKind.wrap Go.IntKind.i64 ((f69 (a0, ())).1.1 - (f69 (a0, ())).1.2.1)), ())).1 - (f116 ((f69 (a0, ())).1, ())).1)), (f117 ((f69 (a0, ())).1, ())))))) then
            (some ((f140 ((f69 (a0, ())).1, (false, ((Go.IntKind.wrap Go.IntKind.u64 ((f91 ((Go.IntKind.wrap Go.IntKind.i64 ((f69 (a0, ())).1.1 - (f69 (a0, ())).1.2.1)), ())).1 - (f116 ((f69 (a0, ())).1, ())).1)), (f117 ((f69 (a0, ())).1, ())))))).1, ((0 : Int), ())))
          else none)
        else none)
      else none)
    else none)
  else none
-- 13 nodes
theorem r70 (p116 : DenS I116 → Bool) (f116 : DenS I116 → DenS O116) (p117 : DenS I117 → Bool) (f117 : DenS I117 → DenS O117) (p69 : DenS I69 → Bool) (f69 : DenS I69 → DenS O69) (p91 : DenS I91 → Bool) (f91 : DenS I91 → DenS O91) (p140 : DenS I140 → Bool) (f140 : DenS I140 → DenS O140) (a0 : Den (.int .i64)) :
    run { P := Go.Proofs.Tryd.prog, sums := [(116, ⟨I116, O116, p116, f116⟩), (117, ⟨I117, O117, p117, f117⟩), (69, ⟨I69, O69, p69, f69⟩), (91, ⟨I91, O91, p91, f91⟩), (140, ⟨I140, O140, p140, f140⟩)], loops := [], globs := G0 } 9 70 Go.Proofs.Tryd.f70 I70 O70 (a0, ()) = t70 p116 f116 p117 f117 p69 f69 p91 f91 p140 f140 a0 := by kernel_rfl
noncomputable def T70 (x : DenS I70) : Option (DenS O70) := t70 S116.pre S116.F S117.pre S117.F S69.pre S69.F S91.pre S91.F S140.pre S140.F x.1
noncomputable def C70 : Cfg := { P := Go.Proofs.Tryd.prog, sums := [(116, S116), (117, S117), (69, S69), (91, S91), (140, S140)], loops := [], globs := G0 }
noncomputable def S70 : Sum := sumOf I70 O70 T70 (DenS.dflt O70)
theorem S70_sound : Sound Go.Proofs.Tryd.prog G0 70 S70 :=
  fn_sound C70 9 70 Go.Proofs.Tryd.f70 mixedOk (by kernel_rfl) (by kernel_rfl) (by kernel_rfl) ⟨S116_sound, ⟨S117_sound, ⟨S69_sound, ⟨S91_sound, ⟨S140_sound, trivial⟩⟩⟩⟩⟩ trivial I70 O70 T70 _ fun x => r70 S116.pre S116.F S117.pre S117.F S69.pre S69.F S91.pre S91.F S140.pre S140.F x.1

/-- vernier/format.Neg -/
abbrev I64 : Sig := [(false, .int .i64), (false, .int .u64)]
abbrev O64 : Sig := [(false, .int .u64), (false, .int .i64)]
def t64 (p66 : DenS I66 → Bool) (f66 : DenS I66 → DenS O66) (p115 : DenS I115 → Bool) (f115 : DenS I115 → DenS O115) (a0 : Den (.int .i64)) (a1 : Den (.int .u64)) : Option (DenS O64) :=
  bif (p66 (a0, (a1, ()))) then
    (bif ((f66 (a0, (a1, ()))).1 != (0 : Int)) then
      (some ((0 : Int), (f66 (a0, (a1, ())))))
    else bif (p115 (a0, ())) then
      (some ((Vx.xorI Go.IntKind.u64 a1 (f115 (a0, ())).1), ((0 : Int), ())))
    else none)
  else none
-- 7 nodes
theorem r64 (p66 : DenS I66 → Bool) (f66 : DenS I66 → DenS O66) (p115 : DenS I115 → Bool) (f115 : DenS I115 → DenS O115) (a0 : Den (.int .i64)) (a1 : Den (.int .u64)) :
    run { P := Go.Proofs.Tryd.prog, sums := [(66, ⟨I66, O66, p66, f66⟩), (115, ⟨I115, O115, p115, f115⟩)], loops := [], globs := G0 } 9 64 Go.Proofs.Tryd.f64 I64 O64 (a0, a1, ()) = t64 p66 f66 p115 f115 a0 a1 := by kernel_rfl
noncomputable def T64 (x : DenS I64) : Option (DenS O64) := t64 S66.pre S66.F S115.pre S115.F x.1 x.2.1
noncomputable def C64 : Cfg := { P := Go.Proofs.Tryd.prog, sums := [(66, S66), (115, S115)], loops := [], globs := G0 }
noncomputable def S64 : Sum := sumOf I64 O64 T64 (DenS.dflt O64)
theorem S64_sound : Sound Go.Proofs.Tryd.prog G0 64 S64 :=
  fn_sound C64 9 64 Go.Proofs.Tryd.f64 mixedOk (by kernel_rfl) (by kernel_rfl) (by kernel_rfl) ⟨S66_sound, ⟨S115_sound, trivial⟩⟩ trivial I64 O64 T64 _ fun x => r64 S66.pre S66.F S115.pre S115.F x.1 x.2.1

/-- vernier/order.step -/
abbrev I93 : Sig := [(false, .int .i64), (false, .int .u64), (false, .int .i64)]
abbrev O93 : Sig := [(false, .int .u64), (false, .int .i64), (false, .int .i64)]
def t93 (p82 : DenS I82 → Bool) (f82 : DenS I82 → DenS O82) (p53 : DenS I53 → Bool) (f53 : DenS I53 → DenS O53) (p70 : DenS I70 → Bool) (f70 : DenS I70 → DenS O70) (p54 : DenS I54 → Bool) (f54 : DenS I54 → DenS O54) (p64 : DenS I64 → Bool) (f64 : DenS I64 → DenS O64) (a0 : Den (.int .i64)) (a1 : Den (.int .u64)) (a2 : Den (.int .i64)) : Option (DenS O93) :=
  bif (p82 (a0, (a1, ()))) then
    (bif ((f82 (a0, (a1, ()))).2.1 != (0 : Int)) then
      (some ((0 : Int), ((0 : Int), (f82 (a0, (a1, ()))).2)))
    else bif (p53 ((f82 (a0, (a1, ()))).1, ())) then
      (bif (f53 ((f82 (a0, (a1, ()))).1, ())).1 then
        (bif (p70 (a0, ())) then
          (bif (p54 ((f82 (a0, (a1, ()))).1, ((f82 (a0, (a1, ()))).1, ()))) then
            (some ((f70 (a0, ())).1, ((f54 ((f82 (a0, (a1, ()))).1, ((f82 (a0, (a1, ()))).1, ()))).1, ((0 : Int), ()))))
          else none)
        else none)
      else bif ((((f82 (a0, (a1, ()))).1.1 == (9 : Int)) && (decide (a2 > (0 : Int)))) || (((f82 (a0, (a1, ()))).1.1 == (2 : Int)) && (decide (a2 < (0 : Int))))) then
        (some (a1, ((0 : Int), ((0 : Int), ()))))
      else bif ((decide ((Go.IntKind.wrap Go.IntKind.i64 ((f82 (a0, (a1, ()))).1.2.1 + a2)) > (0 : Int))) || (((Go.IntKind.wrap Go.IntKind.i64 ((f82 (a0, (a1, ()))).1.2.1 + a2)) == (0 : Int)) && (decide (a2 < (0 : Int))))) then
        (some ((Go.IntKind.wrap Go.IntKind.u64 (Go.IntKind.wrap Go.IntKind.i64 ((f82 (a0, (a1, ()))).1.2.1 + a2))), ((0 : Int), ((0 : Int), ()))))
      else bif (p64 (a0, ((Go.IntKind.wrap Go.IntKind.u64 (Go.IntKind.wrap Go.IntKind.i64 ((0 : Int) - (Go.IntKind.wrap Go.IntKind.i64 ((f82 (a0, (a1, ()))).1.2.1 + a2))))), ()))) then
        (some ((f64 (a0, ((Go.IntKind.wrap Go.IntKind.u64 (Go.IntKind.wrap Go.IntKind.i64 ((0 : Int) - (Go.IntKind.wrap Go.IntKind.i64 ((f82 (a0, (a1, ()))).1.2.1 + a2))))), ()))).1, ((0 : Int), (f64 (a0, ((Go.IntKind.wrap Go.IntKind.u64 (Go.IntKind.wrap Go.IntKind.i64 ((0 : Int) - (Go.IntKind.wrap Go.IntKind.i64 ((f82 (a0, (a1, ()))).1.2.1 + a2))))), ()))).2)))
      else none)
    else none)
  else none
-- 19 nodes
theorem r93 (p82 : DenS I82 → Bool) (f82 : DenS I82 → DenS O82) (p53 : DenS I53 → Bool) (f53 : DenS I53 → DenS O53) (p70 : DenS I70 → Bool) (f70 : DenS I70 → DenS O70) (p54 : DenS I54 → Bool) (f54 : DenS I54 → DenS O54) (p64 : DenS I64 → Bool) (f64 : DenS I64 → DenS O64) (a0 : Den (.int .i64)) (a1 : Den (.int .u64)) (a2 : Den (.int .i64)) :
    run { P := Go.Proofs.Tryd.prog, sums := [(82, ⟨I82, O82, p82, f82⟩), (53, ⟨I53, O53, p53, f53⟩), (70, ⟨I70, O70, p70, f70⟩), (54, ⟨I54, O54, p54, f54⟩), (64, ⟨I64, O64, p64, f64⟩)], loops := [], globs := G0 } 9 93 Go.Proofs.Tryd.f93 I93 O93 (a0, a1, a2, ()) = t93 p82 f82 p53 f53 p70 f70 p54 f54 p64 f64 a0 a1 a2 := by kernel_rfl
noncomputable def T93 (x : DenS I93) : Option (DenS O93) := t93 S82.pre S82.F S53.pre S53.F S70.pre S70.F S54.pre S54.F S64.pre S64.F x.1 x.2.1 x.2.2.1
noncomputable def C93 : Cfg := { P := Go.Proofs.Tryd.prog, sums := [(82, S82), (53, S53), (70, S70), (54, S54), (64, S64)], loops := [], globs := G0 }
noncomputable def S93 : Sum := sumOf I93 O93 T93 (DenS.dflt O93)
theorem S93_sound : Sound Go.Proofs.Tryd.prog G0 93 S93 :=
  fn_sound C93 9 93 Go.Proofs.Tryd.f93 mixedOk (by kernel_rfl) (by kernel_rfl) (by kernel_rfl) ⟨S82_sound, ⟨S53_sound, ⟨S70_sound, ⟨S54_sound, ⟨S64_sound, trivial⟩⟩⟩⟩⟩ trivial I93 O93 T93 _ fun x => r93 S82.pre S82.F S53.pre S53.F S70.pre S70.F S54.pre S54.F S64.pre S64.F x.1 x.2.1 x.2.2.1

/-- vernier/order.NextUp -/
abbrev I41 : Sig := [(false, .int .i64), (false, .int .u64)]
abbrev O41 : Sig := [(false, .int .u64), (false, .int .i64), (false, .int .i64)]
def t41 (p93 : DenS I93 → Bool) (f93 : DenS I93 → DenS O93) (a0 : Den (.int .i64)) (a1 : Den (.int .u64)) : Option (DenS O41) :=
  bif (p93 (a0, (a1, ((1 : Int), ())))) then
    (some (f93 (a0, (a1, ((1 : Int), ())))))
  else none
-- 3 nodes
theorem r41 (p93 : DenS I93 → Bool) (f93 : DenS I93 → DenS O93) (a0 : Den (.int .i64)) (a1 : Den (.int .u64)) :
    run { P := Go.Proofs.Tryd.prog, sums := [(93, ⟨I93, O93, p93, f93⟩)], loops := [], globs := G0 } 9 41 Go.Proofs.Tryd.f41 I41 O41 (a0, a1, ()) = t41 p93 f93 a0 a1 := by kernel_rfl
noncomputable def T41 (x : DenS I41) : Option (DenS O41) := t41 S93.pre S93.F x.1 x.2.1
noncomputable def C41 : Cfg := { P := Go.Proofs.Tryd.prog, sums := [(93, S93)], loops := [], globs := G0 }
noncomputable def S41 : Sum := sumOf I41 O41 T41 (DenS.dflt O41)
theorem S41_sound : Sound Go.Proofs.Tryd.prog G0 41 S41 :=
  fn_sound C41 9 41 Go.Proofs.Tryd.f41 mixedOk (by kernel_rfl) (by kernel_rfl) (by kernel_rfl) ⟨S93_sound, trivial⟩ trivial I41 O41 T41 _ fun x => r41 S93.pre S93.F x.1 x.2.1

/-- vernier/vernierlaw13.fixed -/
abbrev I16 : Sig := []
abbrev O16 : Sig := [(false, .bool)]
def t16 (p14 : DenS I14 → Bool) (f14 : DenS I14 → DenS O14) (p41 : DenS I41 → Bool) (f41 : DenS I41 → DenS O41) : Option (DenS O16) :=
  bif (p14 ((0 : Int), ((32256 : Int), ((0 : Int), (true, ()))))) then
    (bif (p41 ((0 : Int), ((32769 : Int), ()))) then
      (some ((((((((f14 ((0 : Int), ((32256 : Int), ((0 : Int), (true, ()))))).1 == (3 : Int)) && ((f14 ((0 : Int), ((32256 : Int), ((0 : Int), (true, ()))))).2.1 == (1 : Int))) && ((f14 ((0 : Int), ((32256 : Int), ((0 : Int), (true, ()))))).2.2.1 == (0 : Int))) && ((f41 ((0 : Int), ((32769 : Int), ()))).1 == (32768 : Int))) && ((f41 ((0 : Int), ((32769 : Int), ()))).2.1 == (0 : Int))) && ((f41 ((0 : Int), ((32769 : Int), ()))).2.2.1 == (0 : Int))), ()))
    else none)
  else none
-- 5 nodes
theorem r16 (p14 : DenS I14 → Bool) (f14 : DenS I14 → DenS O14) (p41 : DenS I41 → Bool) (f41 : DenS I41 → DenS O41) :
    run { P := Go.Proofs.Tryd.prog, sums := [(14, ⟨I14, O14, p14, f14⟩), (41, ⟨I41, O41, p41, f41⟩)], loops := [], globs := G0 } 9 16 Go.Proofs.Tryd.f16 I16 O16 (()) = t16 p14 f14 p41 f41 := by kernel_rfl
noncomputable def T16 (x : DenS I16) : Option (DenS O16) := t16 S14.pre S14.F S41.pre S41.F
noncomputable def C16 : Cfg := { P := Go.Proofs.Tryd.prog, sums := [(14, S14), (41, S41)], loops := [], globs := G0 }
noncomputable def S16 : Sum := sumOf I16 O16 T16 (DenS.dflt O16)
theorem S16_sound : Sound Go.Proofs.Tryd.prog G0 16 S16 :=
  fn_sound C16 9 16 Go.Proofs.Tryd.f16 mixedOk (by kernel_rfl) (by kernel_rfl) (by kernel_rfl) ⟨S14_sound, ⟨S41_sound, trivial⟩⟩ trivial I16 O16 T16 _ fun x => r16 S14.pre S14.F S41.pre S41.F

/-- vernier/vernierlaw13.OrderCompares -/
abbrev I3 : Sig := [(false, .int .i64), (false, .int .u64), (false, .int .u64)]
abbrev O3 : Sig := [(false, .bool)]
abbrev P3_2 : Pat := ⟨54, [(16, .one (.v .i64)), (15, .one (.sl (.bool))), (0, .one (.v .i64)), (1, .one (.v .u64)), (2, .one (.v .u64)), (17, .one (.v .i64))], []⟩
abbrev A3_2 : List (Nat × Shape) := []
abbrev X3_2 : List (Nat × Pat) := [(0, ⟨54, [], []⟩)]
abbrev Q3_2 : Option Pat := (some ⟨54, [(6, .one (.bool))], []⟩)
def h3_2 (p14 : DenS I14 → Bool) (f14 : DenS I14 → DenS O14) (p15 : DenS I15 → Bool) (f15 : DenS I15 → DenS O15) (p16 : DenS I16 → Bool) (f16 : DenS I16 → DenS O16) {R : Type} (L : Pat.D P3_2 → Option R) (e : OutT X3_2 Q3_2 → Option R) (x : Pat.D P3_2) : Option R :=
  bif (decide (x.1.2.2.2.2.2.1 < x.1.1)) then
    (bif ((decide ((0 : Int) ≤ x.1.2.2.2.2.2.1)) && (decide (x.1.2.2.2.2.2.1 < (x.1.2.1.length : Int)))) then
      (bif (p14 (x.1.2.2.1, (x.1.2.2.2.1, (x.1.2.2.2.2.1, ((x.1.2.1.getD (Int.toNat x.1.2.2.2.2.2.1) false), ()))))) then
        (bif (p15 (x.1.2.2.1, (x.1.2.2.2.1, (x.1.2.2.2.2.1, ((x.1.2.1.getD (Int.toNat x.1.2.2.2.2.2.1) false), ()))))) then
          (bif ((((f14 (x.1.2.2.1, (x.1.2.2.2.1, (x.1.2.2.2.2.1, ((x.1.2.1.getD (Int.toNat x.1.2.2.2.2.2.1) false), ()))))).1 != (f15 (x.1.2.2.1, (x.1.2.2.2.1, (x.1.2.2.2.2.1, ((x.1.2.1.getD (Int.toNat x.1.2.2.2.2.2.1) false), ()))))).1) || ((f14 (x.1.2.2.1, (x.1.2.2.2.1, (x.1.2.2.2.2.1, ((x.1.2.1.getD (Int.toNat x.1.2.2.2.2.2.1) false), ()))))).2.1 != (f15 (x.1.2.2.1, (x.1.2.2.2.1, (x.1.2.2.2.2.1, ((x.1.2.1.getD (Int.toNat x.1.2.2.2.2.2.1) false), ()))))).2.1)) || ((f14 (x.1.2.2.1, (x.1.2.2.2.1, (x.1.2.2.2.2.1, ((x.1.2.1.getD (Int.toNat x.1.2.2.2.2.2.1) false), ()))))).2.2.1 != (f15 (x.1.2.2.1, (x.1.2.2.2.1, (x.1.2.2.2.2.1, ((x.1.2.1.getD (Int.toNat x.1.2.2.2.2.2.1) false), ()))))).2.2.1)) then
            ((e (.inr ((false, ()), ()))))
          else (L ((x.1.1, (x.1.2.1, (x.1.2.2.1, (x.1.2.2.2.1, (x.1.2.2.2.2.1, ((Go.IntKind.wrap Go.IntKind.i64 (x.1.2.2.2.2.2.1 + (1 : Int))), ())))))), ())))
        else none)
      else none)
    else none)
  else (e (.inl ((), ())))
-- 11 nodes
theorem s3_2 (p14 : DenS I14 → Bool) (f14 : DenS I14 → DenS O14) (p15 : DenS I15 → Bool) (f15 : DenS I15 → DenS O15) (p16 : DenS I16 → Bool) (f16 : DenS I16 → DenS O16) (w3_2 : Pat.D P3_2 → Option (OutT X3_2 Q3_2)) (d : Nat) (R : Type) (L : Pat.D P3_2 → Option R) (e : OutT X3_2 Q3_2 → Option R) (x : Pat.D P3_2) :
    lStep { P := Go.Proofs.Tryd.prog, sums := [(14, ⟨I14, O14, p14, f14⟩), (15, ⟨I15, O15, p15, f15⟩), (16, ⟨I16, O16, p16, f16⟩)], loops := [(3, 2, LoopSpec.of P3_2 A3_2 X3_2 Q3_2 w3_2)], globs := G0 } (d + 2) 3 (bodyOf Go.Proofs.Tryd.f3 2) P3_2 A3_2 X3_2 Q3_2 (R := R) L e x = h3_2 p14 f14 p15 f15 p16 f16 L e x := by kernel_rfl
theorem m3_2 (p14 : DenS I14 → Bool) (f14 : DenS I14 → DenS O14) (p15 : DenS I15 → Bool) (f15 : DenS I15 → DenS O15) (p16 : DenS I16 → Bool) (f16 : DenS I16 → DenS O16) : Par fun L e x => h3_2 p14 f14 p15 f15 p16 f16 L e x := by
  intro A B rel L L' e e' h0 hL he x
  unfold h3_2
  repeat' (first | exact h0 | exact hL _ | exact he _ | apply rel_cond | (apply rel_obind h0; intro _) | (apply rel_obind2 <;> intro _))
def t3 (p14 : DenS I14 → Bool) (f14 : DenS I14 → DenS O14) (p15 : DenS I15 → Bool) (f15 : DenS I15 → DenS O15) (p16 : DenS I16 → Bool) (f16 : DenS I16 → DenS O16) (w3_2 : Pat.D P3_2 → Option (OutT X3_2 Q3_2)) (a0 : Den (.int .i64)) (a1 : Den (.int .u64)) (a2 : Den (.int .u64)) : Option (DenS O3) :=
  Vx.obind (w3_2 ((((false :: (true :: [])).length : Int), ((false :: (true :: [])), (a0, (a1, (a2, ((0 : Int), ())))))), ())) fun y0 =>
  Vx.obind2 y0 (fun y1 =>
  bif (p16 ()) then
    (some (f16 ()))
  else none) (fun z1 =>
  some z1.1)
-- 7 nodes
theorem r3 (p14 : DenS I14 → Bool) (f14 : DenS I14 → DenS O14) (p15 : DenS I15 → Bool) (f15 : DenS I15 → DenS O15) (p16 : DenS I16 → Bool) (f16 : DenS I16 → DenS O16) (w3_2 : Pat.D P3_2 → Option (OutT X3_2 Q3_2)) (a0 : Den (.int .i64)) (a1 : Den (.int .u64)) (a2 : Den (.int .u64)) :
    run { P := Go.Proofs.Tryd.prog, sums := [(14, ⟨I14, O14, p14, f14⟩), (15, ⟨I15, O15, p15, f15⟩), (16, ⟨I16, O16, p16, f16⟩)], loops := [(3, 2, LoopSpec.of P3_2 A3_2 X3_2 Q3_2 w3_2)], globs := G0 } 9 3 Go.Proofs.Tryd.f3 I3 O3 (a0, a1, a2, ()) = t3 p14 f14 p15 f15 p16 f16 w3_2 a0 a1 a2 := by kernel_rfl
noncomputable def W3_2 : P3_2.D → Option (OutT X3_2 Q3_2) := lfix fun L => h3_2 S14.pre S14.F S15.pre S15.F S16.pre S16.F L some
noncomputable def T3 (x : DenS I3) : Option (DenS O3) := t3 S14.pre S14.F S15.pre S15.F S16.pre S16.F W3_2 x.1 x.2.1 x.2.2.1
noncomputable def C3 : Cfg := { P := Go.Proofs.Tryd.prog, sums := [(14, S14), (15, S15), (16, S16)], loops := [(3, 2, LoopSpec.of P3_2 A3_2 X3_2 Q3_2 W3_2)], globs := G0 }
noncomputable def S3 : Sum := sumOf I3 O3 T3 (DenS.dflt O3)
theorem S3_sound : Sound Go.Proofs.Tryd.prog G0 3 S3 :=
  fn_sound C3 9 3 Go.Proofs.Tryd.f3 mixedOk (by kernel_rfl) (by kernel_rfl) (by kernel_rfl) ⟨S14_sound, ⟨S15_sound, ⟨S16_sound, trivial⟩⟩⟩ ⟨rfl, fun d => loopOk_of (fun L e x => h3_2 S14.pre S14.F S15.pre S15.F S16.pre S16.F L e x) (m3_2 S14.pre S14.F S15.pre S15.F S16.pre S16.F) (fun R L e x => s3_2 S14.pre S14.F S15.pre S15.F S16.pre S16.F W3_2 d R L e x), trivial⟩ I3 O3 T3 _ fun x => r3 S14.pre S14.F S15.pre S15.F S16.pre S16.F W3_2 x.1 x.2.1 x.2.2.1

/-- vernier/order.rank -/
abbrev I58 : Sig := [(false, .int .i64), (false, .int .u64)]
abbrev O58 : Sig := [(false, .int .i64)]
def t58 (p112 : DenS I112 → Bool) (f112 : DenS I112 → DenS O112) (a0 : Den (.int .i64)) (a1 : Den (.int .u64)) : Option (DenS O58) :=
  bif (p112 (a0, (a1, ()))) then
    (bif ((f112 (a0, (a1, ()))).1 == a1) then
      (some ((Go.IntKind.wrap Go.IntKind.i64 a1), ()))
    else some ((Go.IntKind.wrap Go.IntKind.i64 ((Go.IntKind.wrap Go.IntKind.i64 ((0 : Int) - (Go.IntKind.wrap Go.IntKind.i64 (f112 (a0, (a1, ()))).1))) - (1 : Int))), ()))
  else none
-- 5 nodes
theorem r58 (p112 : DenS I112 → Bool) (f112 : DenS I112 → DenS O112) (a0 : Den (.int .i64)) (a1 : Den (.int .u64)) :
    run { P := Go.Proofs.Tryd.prog, sums := [(112, ⟨I112, O112, p112, f112⟩)], loops := [], globs := G0 } 9 58 Go.Proofs.Tryd.f58 I58 O58 (a0, a1, ()) = t58 p112 f112 a0 a1 := by kernel_rfl
noncomputable def T58 (x : DenS I58) : Option (DenS O58) := t58 S112.pre S112.F x.1 x.2.1
noncomputable def C58 : Cfg := { P := Go.Proofs.Tryd.prog, sums := [(112, S112)], loops := [], globs := G0 }
noncomputable def S58 : Sum := sumOf I58 O58 T58 (DenS.dflt O58)
theorem S58_sound : Sound Go.Proofs.Tryd.prog G0 58 S58 :=
  fn_sound C58 9 58 Go.Proofs.Tryd.f58 mixedOk (by kernel_rfl) (by kernel_rfl) (by kernel_rfl) ⟨S112_sound, trivial⟩ trivial I58 O58 T58 _ fun x => r58 S112.pre S112.F x.1 x.2.1

/-- vernier/order.Total -/
abbrev I17 : Sig := [(false, .int .i64), (false, .int .u64), (false, .int .u64)]
abbrev O17 : Sig := [(false, .int .i64), (false, .int .i64)]
def t17 (p52 : DenS I52 → Bool) (f52 : DenS I52 → DenS O52) (p58 : DenS I58 → Bool) (f58 : DenS I58 → DenS O58) (a0 : Den (.int .i64)) (a1 : Den (.int .u64)) (a2 : Den (.int .u64)) : Option (DenS O17) :=
  bif (p52 (a0, (a1, (a2, ())))) then
    (bif ((f52 (a0, (a1, (a2, ())))).2.2.1 != (0 : Int)) then
      (some ((0 : Int), (f52 (a0, (a1, (a2, ())))).2.2))
    else bif (p58 (a0, (a1, ()))) then
      (bif (p58 (a0, (a2, ()))) then
        (bif (decide ((f58 (a0, (a1, ()))).1 < (f58 (a0, (a2, ()))).1)) then
          (some ((-(1 : Int)), ((0 : Int), ())))
        else bif (decide ((f58 (a0, (a1, ()))).1 > (f58 (a0, (a2, ()))).1)) then
          (some ((1 : Int), ((0 : Int), ())))
        else some ((0 : Int), ((0 : Int), ())))
      else none)
    else none)
  else none
-- 13 nodes
theorem r17 (p52 : DenS I52 → Bool) (f52 : DenS I52 → DenS O52) (p58 : DenS I58 → Bool) (f58 : DenS I58 → DenS O58) (a0 : Den (.int .i64)) (a1 : Den (.int .u64)) (a2 : Den (.int .u64)) :
    run { P := Go.Proofs.Tryd.prog, sums := [(52, ⟨I52, O52, p52, f52⟩), (58, ⟨I58, O58, p58, f58⟩)], loops := [], globs := G0 } 9 17 Go.Proofs.Tryd.f17 I17 O17 (a0, a1, a2, ()) = t17 p52 f52 p58 f58 a0 a1 a2 := by kernel_rfl
noncomputable def T17 (x : DenS I17) : Option (DenS O17) := t17 S52.pre S52.F S58.pre S58.F x.1 x.2.1 x.2.2.1
noncomputable def C17 : Cfg := { P := Go.Proofs.Tryd.prog, sums := [(52, S52), (58, S58)], loops := [], globs := G0 }
noncomputable def S17 : Sum := sumOf I17 O17 T17 (DenS.dflt O17)
theorem S17_sound : Sound Go.Proofs.Tryd.prog G0 17 S17 :=
  fn_sound C17 9 17 Go.Proofs.Tryd.f17 mixedOk (by kernel_rfl) (by kernel_rfl) (by kernel_rfl) ⟨S52_sound, ⟨S58_sound, trivial⟩⟩ trivial I17 O17 T17 _ fun x => r17 S52.pre S52.F S58.pre S58.F x.1 x.2.1 x.2.2.1

/-- vernier/vernierref13.Total -/
abbrev I18 : Sig := [(false, .int .i64), (false, .int .u64), (false, .int .u64)]
abbrev O18 : Sig := [(false, .int .i64), (false, .int .i64)]
def t18 (p55 : DenS I55 → Bool) (f55 : DenS I55 → DenS O55) (p59 : DenS I59 → Bool) (f59 : DenS I59 → DenS O59) (a0 : Den (.int .i64)) (a1 : Den (.int .u64)) (a2 : Den (.int .u64)) : Option (DenS O18) :=
  bif (p55 (a0, (a1, (a2, ())))) then
    (bif (((f55 (a0, (a1, (a2, ())))).1 != (0 : Int)) || (a1 == a2)) then
      (some ((0 : Int), (f55 (a0, (a1, (a2, ()))))))
    else bif (p59 (a0, (a1, ()))) then
      (bif (p59 (a0, (a2, ()))) then
        (bif ((f59 (a0, (a1, ()))).1 == (f59 (a0, (a2, ()))).1) then
          (bif ((f59 (a0, (a1, ()))).1 == (1 : Int)) then
            (bif (decide (a1 > a2)) then
              (some ((-(1 : Int)), ((0 : Int), ())))
            else some ((1 : Int), ((0 : Int), ())))
          else bif (decide (a1 < a2)) then
            (some ((-(1 : Int)), ((0 : Int), ())))
          else some ((1 : Int), ((0 : Int), ())))
        else bif (decide ((f59 (a0, (a1, ()))).1 > (f59 (a0, (a2, ()))).1)) then
          (some ((-(1 : Int)), ((0 : Int), ())))
        else some ((1 : Int), ((0 : Int), ())))
      else none)
    else none)
  else none
-- 19 nodes
theorem r18 (p55 : DenS I55 → Bool) (f55 : DenS I55 → DenS O55) (p59 : DenS I59 → Bool) (f59 : DenS I59 → DenS O59) (a0 : Den (.int .i64)) (a1 : Den (.int .u64)) (a2 : Den (.int .u64)) :
    run { P := Go.Proofs.Tryd.prog, sums := [(55, ⟨I55, O55, p55, f55⟩), (59, ⟨I59, O59, p59, f59⟩)], loops := [], globs := G0 } 9 18 Go.Proofs.Tryd.f18 I18 O18 (a0, a1, a2, ()) = t18 p55 f55 p59 f59 a0 a1 a2 := by kernel_rfl
noncomputable def T18 (x : DenS I18) : Option (DenS O18) := t18 S55.pre S55.F S59.pre S59.F x.1 x.2.1 x.2.2.1
noncomputable def C18 : Cfg := { P := Go.Proofs.Tryd.prog, sums := [(55, S55), (59, S59)], loops := [], globs := G0 }
noncomputable def S18 : Sum := sumOf I18 O18 T18 (DenS.dflt O18)
theorem S18_sound : Sound Go.Proofs.Tryd.prog G0 18 S18 :=
  fn_sound C18 9 18 Go.Proofs.Tryd.f18 mixedOk (by kernel_rfl) (by kernel_rfl) (by kernel_rfl) ⟨S55_sound, ⟨S59_sound, trivial⟩⟩ trivial I18 O18 T18 _ fun x => r18 S55.pre S55.F S59.pre S59.F x.1 x.2.1 x.2.2.1

/-- vernier/order.Min$1 -/
abbrev I61 : Sig := [(false, .int .i64), (false, .int .i64)]
abbrev O61 : Sig := [(false, .bool)]
def t61 (a0 : Den (.int .i64)) (a1 : Den (.int .i64)) : Option (DenS O61) :=
  some ((decide (a1 < a0)), ())
-- 1 nodes
theorem r61 (a0 : Den (.int .i64)) (a1 : Den (.int .i64)) :
    run { P := Go.Proofs.Tryd.prog, sums := [], loops := [], globs := G0 } 9 61 Go.Proofs.Tryd.f61 I61 O61 (a0, a1, ()) = t61 a0 a1 := by kernel_rfl
noncomputable def T61 (x : DenS I61) : Option (DenS O61) := t61 x.1 x.2.1
noncomputable def C61 : Cfg := { P := Go.Proofs.Tryd.prog, sums := [], loops := [], globs := G0 }
noncomputable def S61 : Sum := sumOf I61 O61 T61 (DenS.dflt O61)
theorem S61_sound : Sound Go.Proofs.Tryd.prog G0 61 S61 :=
  fn_sound C61 9 61 Go.Proofs.Tryd.f61 mixedOk (by kernel_rfl) (by kernel_rfl) (by kernel_rfl) trivial trivial I61 O61 T61 _ fun x => r61 x.1 x.2.1

/-- vernier/order.Min -/
abbrev I19 : Sig := [(false, .int .i64), (false, .int .u64), (false, .int .u64)]
abbrev O19 : Sig := [(false, .int .u64), (false, .int .i64), (false, .int .i64)]
def t19 (p61 : DenS I61 → Bool) (f61 : DenS I61 → DenS O61) (p52 : DenS I52 → Bool) (f52 : DenS I52 → DenS O52) (p54 : DenS I54 → Bool) (f54 : DenS I54 → DenS O54) (p70 : DenS I70 → Bool) (f70 : DenS I70 → DenS O70) (p53 : DenS I53 → Bool) (f53 : DenS I53 → DenS O53) (a0 : Den (.int .i64)) (a1 : Den (.int .u64)) (a2 : Den (.int .u64)) : Option (DenS O19) :=
  bif (p52 (a0, (a1, (a2, ())))) then
    (bif ((f52 (a0, (a1, (a2, ())))).2.2.1 != (0 : Int)) then
      (some ((0 : Int), ((0 : Int), (f52 (a0, (a1, (a2, ())))).2.2)))
    else bif (p54 ((f52 (a0, (a1, (a2, ())))).1, ((f52 (a0, (a1, (a2, ())))).2.1, ()))) then
      (bif (p53 ((f52 (a0, (a1, (a2, ())))).1, ())) then
        (bif ((p53 ((f52 (a0, (a1, (a2, ())))).2.1, ())) || (!(f53 ((f52 (a0, (a1, (a2, ())))).1, ())).1)) then
          (bif ((f53 ((f52 (a0, (a1, (a2, ())))).1, ())).1 && (f53 ((f52 (a0, (a1, (a2, ())))).2.1, ())).1) then
            (bif (p70 (a0, ())) then
              (some ((f70 (a0, ())).1, ((f54 ((f52 (a0, (a1, (a2, ())))).1, ((f52 (a0, (a1, (a2, ())))).2.1, ()))).1, ((0 : Int), ()))))
            else none)
          else bif (p53 ((f52 (a0, (a1, (a2, ())))).1, ())) then
            (bif ((p53 ((f52 (a0, (a1, (a2, ())))).2.1, ())) || (!(bif (f53 ((f52 (a0, (a1, (a2, ())))).1, ())).1 then false else true))) then
              (bif ((p61 ((f52 (a0, (a1, (a2, ())))).1.2.1, (f52 (a0, (a1, (a2, ())))).2.1.2)) || (!((bif (f53 ((f52 (a0, (a1, (a2, ())))).1, ())).1 then false else true) && (bif (f53 ((f52 (a0, (a1, (a2, ())))).2.1, ())).1 then false else true)))) then
                (bif ((f53 ((f52 (a0, (a1, (a2, ())))).1, ())).1 || ((!(f53 ((f52 (a0, (a1, (a2, ())))).2.1, ())).1) && ((f61 ((f52 (a0, (a1, (a2, ())))).1.2.1, (f52 (a0, (a1, (a2, ())))).2.1.2)).1 || (((f52 (a0, (a1, (a2, ())))).1.2.1 == (0 : Int)) && ((f52 (a0, (a1, (a2, ())))).2.1.1 == (5 : Int)))))) then
                  (some (a2, ((f54 ((f52 (a0, (a1, (a2, ())))).1, ((f52 (a0, (a1, (a2, ())))).2.1, ()))).1, ((0 : Int), ()))))
                else some (a1, ((f54 ((f52 (a0, (a1, (a2, ())))).1, ((f52 (a0, (a1, (a2, ())))).2.1, ()))).1, ((0 : Int), ()))))
              else none)
            else none)
          else none)
        else none)
      else none)
    else none)
  else none
-- 23 nodes
theorem r19 (p61 : DenS I61 → Bool) (f61 : DenS I61 → DenS O61) (p52 : DenS I52 → Bool) (f52 : DenS I52 → DenS O52) (p54 : DenS I54 → Bool) (f54 : DenS I54 → DenS O54) (p70 : DenS I70 → Bool) (f70 : DenS I70 → DenS O70) (p53 : DenS I53 → Bool) (f53 : DenS I53 → DenS O53) (a0 : Den (.int .i64)) (a1 : Den (.int .u64)) (a2 : Den (.int .u64)) :
    run { P := Go.Proofs.Tryd.prog, sums := [(61, ⟨I61, O61, p61, f61⟩), (52, ⟨I52, O52, p52, f52⟩), (54, ⟨I54, O54, p54, f54⟩), (70, ⟨I70, O70, p70, f70⟩), (53, ⟨I53, O53, p53, f53⟩)], loops := [], globs := G0 } 9 19 Go.Proofs.Tryd.f19 I19 O19 (a0, a1, a2, ()) = t19 p61 f61 p52 f52 p54 f54 p70 f70 p53 f53 a0 a1 a2 := by kernel_rfl
noncomputable def T19 (x : DenS I19) : Option (DenS O19) := t19 S61.pre S61.F S52.pre S52.F S54.pre S54.F S70.pre S70.F S53.pre S53.F x.1 x.2.1 x.2.2.1
noncomputable def C19 : Cfg := { P := Go.Proofs.Tryd.prog, sums := [(61, S61), (52, S52), (54, S54), (70, S70), (53, S53)], loops := [], globs := G0 }
noncomputable def S19 : Sum := sumOf I19 O19 T19 (DenS.dflt O19)
theorem S19_sound : Sound Go.Proofs.Tryd.prog G0 19 S19 :=
  fn_sound C19 9 19 Go.Proofs.Tryd.f19 mixedOk (by kernel_rfl) (by kernel_rfl) (by kernel_rfl) ⟨S61_sound, ⟨S52_sound, ⟨S54_sound, ⟨S70_sound, ⟨S53_sound, trivial⟩⟩⟩⟩⟩ trivial I19 O19 T19 _ fun x => r19 S61.pre S61.F S52.pre S52.F S54.pre S54.F S70.pre S70.F S53.pre S53.F x.1 x.2.1 x.2.2.1

/-- vernier/vernierref04.Make -/
abbrev I132 : Sig := [(false, .int .i64), (false, .int .u64), (false, .int .u64), (false, .int .u64)]
abbrev O132 : Sig := [(false, .int .u64)]
def t132 (p131 : DenS I131 → Bool) (f131 : DenS I131 → DenS O131) (a0 : Den (.int .i64)) (a1 : Den (.int .u64)) (a2 : Den (.int .u64)) (a3 : Den (.int .u64)) : Option (DenS O132) :=
  bif (p131 (a0, ())) then
    (some ((Vx.orI Go.IntKind.u64 (Vx.orI Go.IntKind.u64 (Vx.shlI Go.IntKind.u64 a1 (Go.IntKind.wrap Go.IntKind.u64 (Go.IntKind.wrap Go.IntKind.i64 ((f131 (a0, ())).1.1 - (1 : Int))))) (Vx.shlI Go.IntKind.u64 a2 (Go.IntKind.wrap Go.IntKind.u64 (Go.IntKind.wrap Go.IntKind.i64 ((f131 (a0, ())).1.2.1 - (1 : Int)))))) a3), ()))
  else none
-- 3 nodes
theorem r132 (p131 : DenS I131 → Bool) (f131 : DenS I131 → DenS O131) (a0 : Den (.int .i64)) (a1 : Den (.int .u64)) (a2 : Den (.int .u64)) (a3 : Den (.int .u64)) :
    run { P := Go.Proofs.Tryd.prog, sums := [(131, ⟨I131, O131, p131, f131⟩)], loops := [], globs := G0 } 9 132 Go.Proofs.Tryd.f132 I132 O132 (a0, a1, a2, a3, ()) = t132 p131 f131 a0 a1 a2 a3 := by kernel_rfl
noncomputable def T132 (x : DenS I132) : Option (DenS O132) := t132 S131.pre S131.F x.1 x.2.1 x.2.2.1 x.2.2.2.1
noncomputable def C132 : Cfg := { P := Go.Proofs.Tryd.prog, sums := [(131, S131)], loops := [], globs := G0 }
noncomputable def S132 : Sum := sumOf I132 O132 T132 (DenS.dflt O132)
theorem S132_sound : Sound Go.Proofs.Tryd.prog G0 132 S132 :=
  fn_sound C132 9 132 Go.Proofs.Tryd.f132 mixedOk (by kernel_rfl) (by kernel_rfl) (by kernel_rfl) ⟨S131_sound, trivial⟩ trivial I132 O132 T132 _ fun x => r132 S131.pre S131.F x.1 x.2.1 x.2.2.1 x.2.2.2.1

/-- vernier/vernierref04.NaN -/
abbrev I84 : Sig := [(false, .int .i64)]
abbrev O84 : Sig := [(false, .int .u64)]
def t84 (p131 : DenS I131 → Bool) (f131 : DenS I131 → DenS O131) (p132 : DenS I132 → Bool) (f132 : DenS I132 → DenS O132) (a0 : Den (.int .i64)) : Option (DenS O84) :=
  bif (p131 (a0, ())) then
    (bif (p132 (a0, ((0 : Int), ((Go.IntKind.wrap Go.IntKind.u64 (Go.IntKind.wrap Go.IntKind.i64 ((Go.IntKind.wrap Go.IntKind.i64 ((2 : Int) * (f131 (a0, ())).1.2.2.2.1)) + (1 : Int)))), ((Vx.shlI Go.IntKind.u64 (1 : Int) (Go.IntKind.wrap Go.IntKind.u64 (Go.IntKind.wrap Go.IntKind.i64 ((f131 (a0, ())).1.2.1 - (2 : Int))))), ()))))) then
      (some (f132 (a0, ((0 : Int), ((Go.IntKind.wrap Go.IntKind.u64 (Go.IntKind.wrap Go.IntKind.i64 ((Go.IntKind.wrap Go.IntKind.i64 ((2 : Int) * (f131 (a0, ())).1.2.2.2.1)) + (1 : Int)))), ((Vx.shlI Go.IntKind.u64 (1 : Int) (Go.IntKind.wrap Go.IntKind.u64 (Go.IntKind.wrap Go.IntKind.i64 ((f131 (a0, ())).1.2.1 - (2 : Int))))), ()))))))
    else none)
  else none
-- 5 nodes
theorem r84 (p131 : DenS I131 → Bool) (f131 : DenS I131 → DenS O131) (p132 : DenS I132 → Bool) (f132 : DenS I132 → DenS O132) (a0 : Den (.int .i64)) :
    run { P := Go.Proofs.Tryd.prog, sums := [(131, ⟨I131, O131, p131, f131⟩), (132, ⟨I132, O132, p132, f132⟩)], loops := [], globs := G0 } 9 84 Go.Proofs.Tryd.f84 I84 O84 (a0, ()) = t84 p131 f131 p132 f132 a0 := by kernel_rfl
noncomputable def T84 (x : DenS I84) : Option (DenS O84) := t84 S131.pre S131.F S132.pre S132.F x.1
noncomputable def C84 : Cfg := { P := Go.Proofs.Tryd.prog, sums := [(131, S131), (132, S132)], loops := [], globs := G0 }
noncomputable def S84 : Sum := sumOf I84 O84 T84 (DenS.dflt O84)
theorem S84_sound : Sound Go.Proofs.Tryd.prog G0 84 S84 :=
  fn_sound C84 9 84 Go.Proofs.Tryd.f84 mixedOk (by kernel_rfl) (by kernel_rfl) (by kernel_rfl) ⟨S131_sound, ⟨S132_sound, trivial⟩⟩ trivial I84 O84 T84 _ fun x => r84 S131.pre S131.F S132.pre S132.F x.1

/-- vernier/vernierref04.Zero -/
abbrev I114 : Sig := [(false, .int .i64), (false, .int .u64)]
abbrev O114 : Sig := [(false, .int .u64)]
def t114 (p132 : DenS I132 → Bool) (f132 : DenS I132 → DenS O132) (a0 : Den (.int .i64)) (a1 : Den (.int .u64)) : Option (DenS O114) :=
  bif (p132 (a0, (a1, ((0 : Int), ((0 : Int), ()))))) then
    (some (f132 (a0, (a1, ((0 : Int), ((0 : Int), ()))))))
  else none
-- 3 nodes
theorem r114 (p132 : DenS I132 → Bool) (f132 : DenS I132 → DenS O132) (a0 : Den (.int .i64)) (a1 : Den (.int .u64)) :
    run { P := Go.Proofs.Tryd.prog, sums := [(132, ⟨I132, O132, p132, f132⟩)], loops := [], globs := G0 } 9 114 Go.Proofs.Tryd.f114 I114 O114 (a0, a1, ()) = t114 p132 f132 a0 a1 := by kernel_rfl
noncomputable def T114 (x : DenS I114) : Option (DenS O114) := t114 S132.pre S132.F x.1 x.2.1
noncomputable def C114 : Cfg := { P := Go.Proofs.Tryd.prog, sums := [(132, S132)], loops := [], globs := G0 }
noncomputable def S114 : Sum := sumOf I114 O114 T114 (DenS.dflt O114)
theorem S114_sound : Sound Go.Proofs.Tryd.prog G0 114 S114 :=
  fn_sound C114 9 114 Go.Proofs.Tryd.f114 mixedOk (by kernel_rfl) (by kernel_rfl) (by kernel_rfl) ⟨S132_sound, trivial⟩ trivial I114 O114 T114 _ fun x => r114 S132.pre S132.F x.1 x.2.1

/-- vernier/vernierref13.pick -/
abbrev I62 : Sig := [(false, .int .i64), (false, .int .u64), (false, .int .u64), (false, .bool)]
abbrev O62 : Sig := [(false, .int .u64), (false, .int .i64), (false, .int .i64)]
def t62 (p55 : DenS I55 → Bool) (f55 : DenS I55 → DenS O55) (p56 : DenS I56 → Bool) (f56 : DenS I56 → DenS O56) (p84 : DenS I84 → Bool) (f84 : DenS I84 → DenS O84) (p109 : DenS I109 → Bool) (f109 : DenS I109 → DenS O109) (p57 : DenS I57 → Bool) (f57 : DenS I57 → DenS O57) (p114 : DenS I114 → Bool) (f114 : DenS I114 → DenS O114) (a0 : Den (.int .i64)) (a1 : Den (.int .u64)) (a2 : Den (.int .u64)) (a3 : Den (.bool)) : Option (DenS O62) :=
  bif (p55 (a0, (a1, (a2, ())))) then
    (bif ((f55 (a0, (a1, (a2, ())))).1 != (0 : Int)) then
      (some ((0 : Int), ((0 : Int), (f55 (a0, (a1, (a2, ())))))))
    else bif (p56 (a0, ((a1 :: (a2 :: [])), ()))) then
      (bif (p109 (a0, (a1, ()))) then
        (bif ((p109 (a0, (a2, ()))) || (!(f109 (a0, (a1, ()))).1)) then
          (bif ((f109 (a0, (a1, ()))).1 && (f109 (a0, (a2, ()))).1) then
            (bif (p84 (a0, ())) then
              (some ((f84 (a0, ())).1, ((f56 (a0, ((a1 :: (a2 :: [])), ()))).2.1, ((0 : Int), ()))))
            else none)
          else bif (p109 (a0, (a1, ()))) then
            (bif (f109 (a0, (a1, ()))).1 then
              (some (a2, ((f56 (a0, ((a1 :: (a2 :: [])), ()))).2.1, ((0 : Int), ()))))
            else bif (p109 (a0, (a2, ()))) then
              (bif (f109 (a0, (a2, ()))).1 then
                (some (a1, ((f56 (a0, ((a1 :: (a2 :: [])), ()))).2.1, ((0 : Int), ()))))
              else bif (p57 (a0, (a1, (a2, ())))) then
                (bif (((f57 (a0, (a1, (a2, ())))).1 == (0 : Int)) && (a1 != a2)) then
                  (bif a3 then
                    (bif (p114 (a0, ((0 : Int), ()))) then
                      (some ((f114 (a0, ((0 : Int), ()))).1, ((0 : Int), ((0 : Int), ()))))
                    else none)
                  else bif (p114 (a0, ((1 : Int), ()))) then
                    (some ((f114 (a0, ((1 : Int), ()))).1, ((0 : Int), ((0 : Int), ()))))
                  else none)
                else bif (((decide ((f57 (a0, (a1, (a2, ())))).1 > (0 : Int))) && (!a3)) || ((decide ((f57 (a0, (a1, (a2, ())))).1 < (0 : Int))) && a3)) then
                  (some (a2, ((0 : Int), ((0 : Int), ()))))
                else some (a1, ((0 : Int), ((0 : Int), ()))))
              else none)
            else none)
          else none)
        else none)
      else none)
    else none)
  else none
-- 35 nodes
theorem r62 (p55 : DenS I55 → Bool) (f55 : DenS I55 → DenS O55) (p56 : DenS I56 → Bool) (f56 : DenS I56 → DenS O56) (p84 : DenS I84 → Bool) (f84 : DenS I84 → DenS O84) (p109 : DenS I109 → Bool) (f109 : DenS I109 → DenS O109) (p57 : DenS I57 → Bool) (f57 : DenS I57 → DenS O57) (p114 : DenS I114 → Bool) (f114 : DenS I114 → DenS O114) (a0 : Den (.int .i64)) (a1 : Den (.int .u64)) (a2 : Den (.int .u64)) (a3 : Den (.bool)) :
    run { P := Go.Proofs.Tryd.prog, sums := [(55, ⟨I55, O55, p55, f55⟩), (56, ⟨I56, O56, p56, f56⟩), (84, ⟨I84, O84, p84, f84⟩), (109, ⟨I109, O109, p109, f109⟩), (57, ⟨I57, O57, p57, f57⟩), (114, ⟨I114, O114, p114, f114⟩)], loops := [], globs := G0 } 9 62 Go.Proofs.Tryd.f62 I62 O62 (a0, a1, a2, a3, ()) = t62 p55 f55 p56 f56 p84 f84 p109 f109 p57 f57 p114 f114 a0 a1 a2 a3 := by kernel_rfl
noncomputable def T62 (x : DenS I62) : Option (DenS O62) := t62 S55.pre S55.F S56.pre S56.F S84.pre S84.F S109.pre S109.F S57.pre S57.F S114.pre S114.F x.1 x.2.1 x.2.2.1 x.2.2.2.1
noncomputable def C62 : Cfg := { P := Go.Proofs.Tryd.prog, sums := [(55, S55), (56, S56), (84, S84), (109, S109), (57, S57), (114, S114)], loops := [], globs := G0 }
noncomputable def S62 : Sum := sumOf I62 O62 T62 (DenS.dflt O62)
theorem S62_sound : Sound Go.Proofs.Tryd.prog G0 62 S62 :=
  fn_sound C62 9 62 Go.Proofs.Tryd.f62 mixedOk (by kernel_rfl) (by kernel_rfl) (by kernel_rfl) ⟨S55_sound, ⟨S56_sound, ⟨S84_sound, ⟨S109_sound, ⟨S57_sound, ⟨S114_sound, trivial⟩⟩⟩⟩⟩⟩ trivial I62 O62 T62 _ fun x => r62 S55.pre S55.F S56.pre S56.F S84.pre S84.F S109.pre S109.F S57.pre S57.F S114.pre S114.F x.1 x.2.1 x.2.2.1 x.2.2.2.1

/-- vernier/vernierref13.Min -/
abbrev I20 : Sig := [(false, .int .i64), (false, .int .u64), (false, .int .u64)]
abbrev O20 : Sig := [(false, .int .u64), (false, .int .i64), (false, .int .i64)]
def t20 (p62 : DenS I62 → Bool) (f62 : DenS I62 → DenS O62) (a0 : Den (.int .i64)) (a1 : Den (.int .u64)) (a2 : Den (.int .u64)) : Option (DenS O20) :=
  bif (p62 (a0, (a1, (a2, (false, ()))))) then
    (some (f62 (a0, (a1, (a2, (false, ()))))))
  else none
-- 3 nodes
theorem r20 (p62 : DenS I62 → Bool) (f62 : DenS I62 → DenS O62) (a0 : Den (.int .i64)) (a1 : Den (.int .u64)) (a2 : Den (.int .u64)) :
    run { P := Go.Proofs.Tryd.prog, sums := [(62, ⟨I62, O62, p62, f62⟩)], loops := [], globs := G0 } 9 20 Go.Proofs.Tryd.f20 I20 O20 (a0, a1, a2, ()) = t20 p62 f62 a0 a1 a2 := by kernel_rfl
noncomputable def T20 (x : DenS I20) : Option (DenS O20) := t20 S62.pre S62.F x.1 x.2.1 x.2.2.1
noncomputable def C20 : Cfg := { P := Go.Proofs.Tryd.prog, sums := [(62, S62)], loops := [], globs := G0 }
noncomputable def S20 : Sum := sumOf I20 O20 T20 (DenS.dflt O20)
theorem S20_sound : Sound Go.Proofs.Tryd.prog G0 20 S20 :=
  fn_sound C20 9 20 Go.Proofs.Tryd.f20 mixedOk (by kernel_rfl) (by kernel_rfl) (by kernel_rfl) ⟨S62_sound, trivial⟩ trivial I20 O20 T20 _ fun x => r20 S62.pre S62.F x.1 x.2.1 x.2.2.1

/-- vernier/order.Max$1 -/
abbrev I63 : Sig := [(false, .int .i64), (false, .int .i64)]
abbrev O63 : Sig := [(false, .bool)]
def t63 (a0 : Den (.int .i64)) (a1 : Den (.int .i64)) : Option (DenS O63) :=
  some ((decide (a1 > a0)), ())
-- 1 nodes
theorem r63 (a0 : Den (.int .i64)) (a1 : Den (.int .i64)) :
    run { P := Go.Proofs.Tryd.prog, sums := [], loops := [], globs := G0 } 9 63 Go.Proofs.Tryd.f63 I63 O63 (a0, a1, ()) = t63 a0 a1 := by kernel_rfl
noncomputable def T63 (x : DenS I63) : Option (DenS O63) := t63 x.1 x.2.1
noncomputable def C63 : Cfg := { P := Go.Proofs.Tryd.prog, sums := [], loops := [], globs := G0 }
noncomputable def S63 : Sum := sumOf I63 O63 T63 (DenS.dflt O63)
theorem S63_sound : Sound Go.Proofs.Tryd.prog G0 63 S63 :=
  fn_sound C63 9 63 Go.Proofs.Tryd.f63 mixedOk (by kernel_rfl) (by kernel_rfl) (by kernel_rfl) trivial trivial I63 O63 T63 _ fun x => r63 x.1 x.2.1

/-- vernier/order.Max -/
abbrev I21 : Sig := [(false, .int .i64), (false, .int .u64), (false, .int .u64)]
abbrev O21 : Sig := [(false, .int .u64), (false, .int .i64), (false, .int .i64)]
def t21 (p63 : DenS I63 → Bool) (f63 : DenS I63 → DenS O63) (p52 : DenS I52 → Bool) (f52 : DenS I52 → DenS O52) (p54 : DenS I54 → Bool) (f54 : DenS I54 → DenS O54) (p70 : DenS I70 → Bool) (f70 : DenS I70 → DenS O70) (p53 : DenS I53 → Bool) (f53 : DenS I53 → DenS O53) (a0 : Den (.int .i64)) (a1 : Den (.int .u64)) (a2 : Den (.int .u64)) : Option (DenS O21) :=
  bif (p52 (a0, (a1, (a2, ())))) then
    (bif ((f52 (a0, (a1, (a2, ())))).2.2.1 != (0 : Int)) then
      (some ((0 : Int), ((0 : Int), (f52 (a0, (a1, (a2, ())))).2.2)))
    else bif (p54 ((f52 (a0, (a1, (a2, ())))).1, ((f52 (a0, (a1, (a2, ())))).2.1, ()))) then
      (bif (p53 ((f52 (a0, (a1, (a2, ())))).1, ())) then
        (bif ((p53 ((f52 (a0, (a1, (a2, ())))).2.1, ())) || (!(f53 ((f52 (a0, (a1, (a2, ())))).1, ())).1)) then
          (bif ((f53 ((f52 (a0, (a1, (a2, ())))).1, ())).1 && (f53 ((f52 (a0, (a1, (a2, ())))).2.1, ())).1) then
            (bif (p70 (a0, ())) then
              (some ((f70 (a0, ())).1, ((f54 ((f52 (a0, (a1, (a2, ())))).1, ((f52 (a0, (a1, (a2, ())))).2.1, ()))).1, ((0 : Int), ()))))
            else none)
          else bif (p53 ((f52 (a0, (a1, (a2, ())))).1, ())) then
            (bif ((p53 ((f52 (a0, (a1, (a2, ())))).2.1, ())) || (!(bif (f53 ((f52 (a0, (a1, (a2, ())))).1, ())).1 then false else true))) then
              (bif ((p63 ((f52 (a0, (a1, (a2, ())))).1.2.1, (f52 (a0, (a1, (a2, ())))).2.1.2)) || (!((bif (f53 ((f52 (a0, (a1, (a2, ())))).1, ())).1 then false else true) && (bif (f53 ((f52 (a0, (a1, (a2, ())))).2.1, ())).1 then false else true)))) then
                (bif ((f53 ((f52 (a0, (a1, (a2, ())))).1, ())).1 || ((!(f53 ((f52 (a0, (a1, (a2, ())))).2.1, ())).1) && ((f63 ((f52 (a0, (a1, (a2, ())))).1.2.1, (f52 (a0, (a1, (a2, ())))).2.1.2)).1 || (((f52 (a0, (a1, (a2, ())))).1.2.1 == (0 : Int)) && ((f52 (a0, (a1, (a2, ())))).2.1.1 == (6 : Int)))))) then
                  (some (a2, ((f54 ((f52 (a0, (a1, (a2, ())))).1, ((f52 (a0, (a1, (a2, ())))).2.1, ()))).1, ((0 : Int), ()))))
                else some (a1, ((f54 ((f52 (a0, (a1, (a2, ())))).1, ((f52 (a0, (a1, (a2, ())))).2.1, ()))).1, ((0 : Int), ()))))
              else none)
            else none)
          else none)
        else none)
      else none)
    else none)
  else none
-- 23 nodes
theorem r21 (p63 : DenS I63 → Bool) (f63 : DenS I63 → DenS O63) (p52 : DenS I52 → Bool) (f52 : DenS I52 → DenS O52) (p54 : DenS I54 → Bool) (f54 : DenS I54 → DenS O54) (p70 : DenS I70 → Bool) (f70 : DenS I70 → DenS O70) (p53 : DenS I53 → Bool) (f53 : DenS I53 → DenS O53) (a0 : Den (.int .i64)) (a1 : Den (.int .u64)) (a2 : Den (.int .u64)) :
    run { P := Go.Proofs.Tryd.prog, sums := [(63, ⟨I63, O63, p63, f63⟩), (52, ⟨I52, O52, p52, f52⟩), (54, ⟨I54, O54, p54, f54⟩), (70, ⟨I70, O70, p70, f70⟩), (53, ⟨I53, O53, p53, f53⟩)], loops := [], globs := G0 } 9 21 Go.Proofs.Tryd.f21 I21 O21 (a0, a1, a2, ()) = t21 p63 f63 p52 f52 p54 f54 p70 f70 p53 f53 a0 a1 a2 := by kernel_rfl
noncomputable def T21 (x : DenS I21) : Option (DenS O21) := t21 S63.pre S63.F S52.pre S52.F S54.pre S54.F S70.pre S70.F S53.pre S53.F x.1 x.2.1 x.2.2.1
noncomputable def C21 : Cfg := { P := Go.Proofs.Tryd.prog, sums := [(63, S63), (52, S52), (54, S54), (70, S70), (53, S53)], loops := [], globs := G0 }
noncomputable def S21 : Sum := sumOf I21 O21 T21 (DenS.dflt O21)
theorem S21_sound : Sound Go.Proofs.Tryd.prog G0 21 S21 :=
  fn_sound C21 9 21 Go.Proofs.Tryd.f21 mixedOk (by kernel_rfl) (by kernel_rfl) (by kernel_rfl) ⟨S63_sound, ⟨S52_sound, ⟨S54_sound, ⟨S70_sound, ⟨S53_sound, trivial⟩⟩⟩⟩⟩ trivial I21 O21 T21 _ fun x => r21 S63.pre S63.F S52.pre S52.F S54.pre S54.F S70.pre S70.F S53.pre S53.F x.1 x.2.1 x.2.2.1

/-- vernier/vernierref13.Max -/
abbrev I22 : Sig := [(false, .int .i64), (false, .int .u64), (false, .int .u64)]
abbrev O22 : Sig := [(false, .int .u64), (false, .int .i64), (false, .int .i64)]
def t22 (p62 : DenS I62 → Bool) (f62 : DenS I62 → DenS O62) (a0 : Den (.int .i64)) (a1 : Den (.int .u64)) (a2 : Den (.int .u64)) : Option (DenS O22) :=
  bif (p62 (a0, (a1, (a2, (true, ()))))) then
    (some (f62 (a0, (a1, (a2, (true, ()))))))
  else none
-- 3 nodes
theorem r22 (p62 : DenS I62 → Bool) (f62 : DenS I62 → DenS O62) (a0 : Den (.int .i64)) (a1 : Den (.int .u64)) (a2 : Den (.int .u64)) :
    run { P := Go.Proofs.Tryd.prog, sums := [(62, ⟨I62, O62, p62, f62⟩)], loops := [], globs := G0 } 9 22 Go.Proofs.Tryd.f22 I22 O22 (a0, a1, a2, ()) = t22 p62 f62 a0 a1 a2 := by kernel_rfl
noncomputable def T22 (x : DenS I22) : Option (DenS O22) := t22 S62.pre S62.F x.1 x.2.1 x.2.2.1
noncomputable def C22 : Cfg := { P := Go.Proofs.Tryd.prog, sums := [(62, S62)], loops := [], globs := G0 }
noncomputable def S22 : Sum := sumOf I22 O22 T22 (DenS.dflt O22)
theorem S22_sound : Sound Go.Proofs.Tryd.prog G0 22 S22 :=
  fn_sound C22 9 22 Go.Proofs.Tryd.f22 mixedOk (by kernel_rfl) (by kernel_rfl) (by kernel_rfl) ⟨S62_sound, trivial⟩ trivial I22 O22 T22 _ fun x => r22 S62.pre S62.F x.1 x.2.1 x.2.2.1

/-- vernier/vernierlaw13.OrderPicks -/
abbrev I4 : Sig := [(false, .int .i64), (false, .int .u64), (false, .int .u64)]
abbrev O4 : Sig := [(false, .bool)]
def t4 (p17 : DenS I17 → Bool) (f17 : DenS I17 → DenS O17) (p18 : DenS I18 → Bool) (f18 : DenS I18 → DenS O18) (p19 : DenS I19 → Bool) (f19 : DenS I19 → DenS O19) (p20 : DenS I20 → Bool) (f20 : DenS I20 → DenS O20) (p16 : DenS I16 → Bool) (f16 : DenS I16 → DenS O16) (p21 : DenS I21 → Bool) (f21 : DenS I21 → DenS O21) (p22 : DenS I22 → Bool) (f22 : DenS I22 → DenS O22) (a0 : Den (.int .i64)) (a1 : Den (.int .u64)) (a2 : Den (.int .u64)) : Option (DenS O4) :=
  bif (p17 (a0, (a1, (a2, ())))) then
    (bif (p18 (a0, (a1, (a2, ())))) then
      (bif (((f17 (a0, (a1, (a2, ())))).1 != (f18 (a0, (a1, (a2, ())))).1) || ((f17 (a0, (a1, (a2, ())))).2.1 != (f18 (a0, (a1, (a2, ())))).2.1)) then
        (some (false, ()))
      else bif (p19 (a0, (a1, (a2, ())))) then
        (bif (p20 (a0, (a1, (a2, ())))) then
          (bif (p16 ()) then
            (bif ((((!(f16 ()).1) || ((f19 (a0, (a1, (a2, ())))).1 != (f20 (a0, (a1, (a2, ())))).1)) || ((f19 (a0, (a1, (a2, ())))).2.1 != (f20 (a0, (a1, (a2, ())))).2.1)) || ((f19 (a0, (a1, (a2, ())))).2.2.1 != (f20 (a0, (a1, (a2, ())))).2.2.1)) then
              (some (false, ()))
            else bif (p21 (a0, (a1, (a2, ())))) then
              (bif (p22 (a0, (a1, (a2, ())))) then
                (some (((((f21 (a0, (a1, (a2, ())))).1 == (f22 (a0, (a1, (a2, ())))).1) && ((f21 (a0, (a1, (a2, ())))).2.1 == (f22 (a0, (a1, (a2, ())))).2.1)) && ((f21 (a0, (a1, (a2, ())))).2.2.1 == (f22 (a0, (a1, (a2, ())))).2.2.1)), ()))
              else none)
            else none)
          else none)
        else none)
      else none)
    else none)
  else none
-- 19 nodes
theorem r4 (p17 : DenS I17 → Bool) (f17 : DenS I17 → DenS O17) (p18 : DenS I18 → Bool) (f18 : DenS I18 → DenS O18) (p19 : DenS I19 → Bool) (f19 : DenS I19 → DenS O19) (p20 : DenS I20 → Bool) (f20 : DenS I20 → DenS O20) (p16 : DenS I16 → Bool) (f16 : DenS I16 → DenS O16) (p21 : DenS I21 → Bool) (f21 : DenS I21 → DenS O21) (p22 : DenS I22 → Bool) (f22 : DenS I22 → DenS O22) (a0 : Den (.int .i64)) (a1 : Den (.int .u64)) (a2 : Den (.int .u64)) :
    run { P := Go.Proofs.Tryd.prog, sums := [(17, ⟨I17, O17, p17, f17⟩), (18, ⟨I18, O18, p18, f18⟩), (19, ⟨I19, O19, p19, f19⟩), (20, ⟨I20, O20, p20, f20⟩), (16, ⟨I16, O16, p16, f16⟩), (21, ⟨I21, O21, p21, f21⟩), (22, ⟨I22, O22, p22, f22⟩)], loops := [], globs := G0 } 9 4 Go.Proofs.Tryd.f4 I4 O4 (a0, a1, a2, ()) = t4 p17 f17 p18 f18 p19 f19 p20 f20 p16 f16 p21 f21 p22 f22 a0 a1 a2 := by kernel_rfl
noncomputable def T4 (x : DenS I4) : Option (DenS O4) := t4 S17.pre S17.F S18.pre S18.F S19.pre S19.F S20.pre S20.F S16.pre S16.F S21.pre S21.F S22.pre S22.F x.1 x.2.1 x.2.2.1
noncomputable def C4 : Cfg := { P := Go.Proofs.Tryd.prog, sums := [(17, S17), (18, S18), (19, S19), (20, S20), (16, S16), (21, S21), (22, S22)], loops := [], globs := G0 }
noncomputable def S4 : Sum := sumOf I4 O4 T4 (DenS.dflt O4)
theorem S4_sound : Sound Go.Proofs.Tryd.prog G0 4 S4 :=
  fn_sound C4 9 4 Go.Proofs.Tryd.f4 mixedOk (by kernel_rfl) (by kernel_rfl) (by kernel_rfl) ⟨S17_sound, ⟨S18_sound, ⟨S19_sound, ⟨S20_sound, ⟨S16_sound, ⟨S21_sound, ⟨S22_sound, trivial⟩⟩⟩⟩⟩⟩⟩ trivial I4 O4 T4 _ fun x => r4 S17.pre S17.F S18.pre S18.F S19.pre S19.F S20.pre S20.F S16.pre S16.F S21.pre S21.F S22.pre S22.F x.1 x.2.1 x.2.2.1

/-- vernier/order.NextDown -/
abbrev I42 : Sig := [(false, .int .i64), (false, .int .u64)]
abbrev O42 : Sig := [(false, .int .u64), (false, .int .i64), (false, .int .i64)]
def t42 (p93 : DenS I93 → Bool) (f93 : DenS I93 → DenS O93) (a0 : Den (.int .i64)) (a1 : Den (.int .u64)) : Option (DenS O42) :=
  bif (p93 (a0, (a1, ((-(1 : Int)), ())))) then
    (some (f93 (a0, (a1, ((-(1 : Int)), ())))))
  else none
-- 3 nodes
theorem r42 (p93 : DenS I93 → Bool) (f93 : DenS I93 → DenS O93) (a0 : Den (.int .i64)) (a1 : Den (.int .u64)) :
    run { P := Go.Proofs.Tryd.prog, sums := [(93, ⟨I93, O93, p93, f93⟩)], loops := [], globs := G0 } 9 42 Go.Proofs.Tryd.f42 I42 O42 (a0, a1, ()) = t42 p93 f93 a0 a1 := by kernel_rfl
noncomputable def T42 (x : DenS I42) : Option (DenS O42) := t42 S93.pre S93.F x.1 x.2.1
noncomputable def C42 : Cfg := { P := Go.Proofs.Tryd.prog, sums := [(93, S93)], loops := [], globs := G0 }
noncomputable def S42 : Sum := sumOf I42 O42 T42 (DenS.dflt O42)
theorem S42_sound : Sound Go.Proofs.Tryd.prog G0 42 S42 :=
  fn_sound C42 9 42 Go.Proofs.Tryd.f42 mixedOk (by kernel_rfl) (by kernel_rfl) (by kernel_rfl) ⟨S93_sound, trivial⟩ trivial I42 O42 T42 _ fun x => r42 S93.pre S93.F x.1 x.2.1

/-- vernier/vernierlaw13.mirrors -/
abbrev I23 : Sig := [(false, .int .i64), (false, .int .u64), (false, .int .u64)]
abbrev O23 : Sig := [(false, .bool)]
def t23 (p17 : DenS I17 → Bool) (f17 : DenS I17 → DenS O17) (p14 : DenS I14 → Bool) (f14 : DenS I14 → DenS O14) (p19 : DenS I19 → Bool) (f19 : DenS I19 → DenS O19) (p21 : DenS I21 → Bool) (f21 : DenS I21 → DenS O21) (p42 : DenS I42 → Bool) (f42 : DenS I42 → DenS O42) (p41 : DenS I41 → Bool) (f41 : DenS I41 → DenS O41) (p65 : DenS I65 → Bool) (f65 : DenS I65 → DenS O65) (p64 : DenS I64 → Bool) (f64 : DenS I64 → DenS O64) (a0 : Den (.int .i64)) (a1 : Den (.int .u64)) (a2 : Den (.int .u64)) : Option (DenS O23) :=
  bif (p64 (a0, (a1, ()))) then
    (bif (p64 (a0, (a2, ()))) then
      (bif (((f64 (a0, (a1, ()))).2.1 != (0 : Int)) || ((f64 (a0, (a2, ()))).2.1 != (0 : Int))) then
        (some (true, ()))
      else bif (p17 (a0, (a1, (a2, ())))) then
        (bif (p17 (a0, ((f64 (a0, (a1, ()))).1, ((f64 (a0, (a2, ()))).1, ())))) then
          (bif (p14 (a0, (a1, (a2, (false, ()))))) then
            (bif (p14 (a0, ((f64 (a0, (a2, ()))).1, ((f64 (a0, (a1, ()))).1, (false, ()))))) then
              (bif ((((((((f17 (a0, (a1, (a2, ())))).2.1 != (0 : Int)) || ((f17 (a0, ((f64 (a0, (a1, ()))).1, ((f64 (a0, (a2, ()))).1, ())))).2.1 != (0 : Int))) || ((f14 (a0, (a1, (a2, (false, ()))))).2.2.1 != (0 : Int))) || ((f14 (a0, ((f64 (a0, (a2, ()))).1, ((f64 (a0, (a1, ()))).1, (false, ()))))).2.2.1 != (0 : Int))) || ((f17 (a0, ((f64 (a0, (a1, ()))).1, ((f64 (a0, (a2, ()))).1, ())))).1 != (Go.IntKind.wrap Go.IntKind.i64 ((0 : Int) - (f17 (a0, (a1, (a2, ())))).1)))) || ((f14 (a0, (a1, (a2, (false, ()))))).1 != (f14 (a0, ((f64 (a0, (a2, ()))).1, ((f64 (a0, (a1, ()))).1, (false, ()))))).1)) || ((f14 (a0, (a1, (a2, (false, ()))))).2.1 != (f14 (a0, ((f64 (a0, (a2, ()))).1, ((f64 (a0, (a1, ()))).1, (false, ()))))).2.1)) then
                (some (false, ()))
              else bif (p19 (a0, (a1, (a2, ())))) then
                (bif (p21 (a0, ((f64 (a0, (a1, ()))).1, ((f64 (a0, (a2, ()))).1, ())))) then
                  (bif (p42 (a0, (a1, ()))) then
                    (bif (p41 (a0, ((f64 (a0, (a1, ()))).1, ()))) then
                      (bif (((((((f19 (a0, (a1, (a2, ())))).2.2.1 != (0 : Int)) || ((f21 (a0, ((f64 (a0, (a1, ()))).1, ((f64 (a0, (a2, ()))).1, ())))).2.2.1 != (0 : Int))) || ((f42 (a0, (a1, ()))).2.2.1 != (0 : Int))) || ((f41 (a0, ((f64 (a0, (a1, ()))).1, ()))).2.2.1 != (0 : Int))) || ((f19 (a0, (a1, (a2, ())))).2.1 != (f21 (a0, ((f64 (a0, (a1, ()))).1, ((f64 (a0, (a2, ()))).1, ())))).2.1)) || ((f42 (a0, (a1, ()))).2.1 != (f41 (a0, ((f64 (a0, (a1, ()))).1, ()))).2.1)) then
                        (some (false, ()))
                      else bif (p65 (a0, ((f19 (a0, (a1, (a2, ())))).1, ()))) then
                        (bif (p65 (a0, ((f42 (a0, (a1, ()))).1, ()))) then
                          (bif (p64 (a0, ((f19 (a0, (a1, (a2, ())))).1, ()))) then
                            (bif (p64 (a0, ((f42 (a0, (a1, ()))).1, ()))) then
                              (bif (((((f65 (a0, ((f19 (a0, (a1, (a2, ())))).1, ()))).2.1 != (0 : Int)) || ((f65 (a0, ((f42 (a0, (a1, ()))).1, ()))).2.1 != (0 : Int))) || ((f64 (a0, ((f19 (a0, (a1, (a2, ())))).1, ()))).2.1 != (0 : Int))) || ((f64 (a0, ((f42 (a0, (a1, ()))).1, ()))).2.1 != (0 : Int))) then
                                (some (false, ()))
                              else some ((((decide ((f65 (a0, ((f19 (a0, (a1, (a2, ())))).1, ()))).1 ≤ (1 : Int))) || ((f64 (a0, ((f19 (a0, (a1, (a2, ())))).1, ()))).1 == (f21 (a0, ((f64 (a0, (a1, ()))).1, ((f64 (a0, (a2, ()))).1, ())))).1)) && ((decide ((f65 (a0, ((f42 (a0, (a1, ()))).1, ()))).1 ≤ (1 : Int))) || ((f64 (a0, ((f42 (a0, (a1, ()))).1, ()))).1 == (f41 (a0, ((f64 (a0, (a1, ()))).1, ()))).1))), ()))
                            else none)
                          else none)
                        else none)
                      else none)
                    else none)
                  else none)
                else none)
              else none)
            else none)
          else none)
        else none)
      else none)
    else none)
  else none
-- 37 nodes
theorem r23 (p17 : DenS I17 → Bool) (f17 : DenS I17 → DenS O17) (p14 : DenS I14 → Bool) (f14 : DenS I14 → DenS O14) (p19 : DenS I19 → Bool) (f19 : DenS I19 → DenS O19) (p21 : DenS I21 → Bool) (f21 : DenS I21 → DenS O21) (p42 : DenS I42 → Bool) (f42 : DenS I42 → DenS O42) (p41 : DenS I41 → Bool) (f41 : DenS I41 → DenS O41) (p65 : DenS I65 → Bool) (f65 : DenS I65 → DenS O65) (p64 : DenS I64 → Bool) (f64 : DenS I64 → DenS O64) (a0 : Den (.int .i64)) (a1 : Den (.int .u64)) (a2 : Den (.int .u64)) :
    run { P := Go.Proofs.Tryd.prog, sums := [(17, ⟨I17, O17, p17, f17⟩), (14, ⟨I14, O14, p14, f14⟩), (19, ⟨I19, O19, p19, f19⟩), (21, ⟨I21, O21, p21, f21⟩), (42, ⟨I42, O42, p42, f42⟩), (41, ⟨I41, O41, p41, f41⟩), (65, ⟨I65, O65, p65, f65⟩), (64, ⟨I64, O64, p64, f64⟩)], loops := [], globs := G0 } 9 23 Go.Proofs.Tryd.f23 I23 O23 (a0, a1, a2, ()) = t23 p17 f17 p14 f14 p19 f19 p21 f21 p42 f42 p41 f41 p65 f65 p64 f64 a0 a1 a2 := by kernel_rfl
noncomputable def T23 (x : DenS I23) : Option (DenS O23) := t23 S17.pre S17.F S14.pre S14.F S19.pre S19.F S21.pre S21.F S42.pre S42.F S41.pre S41.F S65.pre S65.F S64.pre S64.F x.1 x.2.1 x.2.2.1
noncomputable def C23 : Cfg := { P := Go.Proofs.Tryd.prog, sums := [(17, S17), (14, S14), (19, S19), (21, S21), (42, S42), (41, S41), (65, S65), (64, S64)], loops := [], globs := G0 }
noncomputable def S23 : Sum := sumOf I23 O23 T23 (DenS.dflt O23)
theorem S23_sound : Sound Go.Proofs.Tryd.prog G0 23 S23 :=
  fn_sound C23 9 23 Go.Proofs.Tryd.f23 mixedOk (by kernel_rfl) (by kernel_rfl) (by kernel_rfl) ⟨S17_sound, ⟨S14_sound, ⟨S19_sound, ⟨S21_sound, ⟨S42_sound, ⟨S41_sound, ⟨S65_sound, ⟨S64_sound, trivial⟩⟩⟩⟩⟩⟩⟩⟩ trivial I23 O23 T23 _ fun x => r23 S17.pre S17.F S14.pre S14.F S19.pre S19.F S21.pre S21.F S42.pre S42.F S41.pre S41.F S65.pre S65.F S64.pre S64.F x.1 x.2.1 x.2.2.1

/-- vernier/vernierlaw13.OrderChain -/
abbrev I5 : Sig := [(true, .pair (.int .i64) (.pair (.int .u64) (.pair (.int .u64) (.pair (.int .u64) (.unit)))))]
abbrev O5 : Sig := [(false, .bool)]
def t5 (p16 : DenS I16 → Bool) (f16 : DenS I16 → DenS O16) (p23 : DenS I23 → Bool) (f23 : DenS I23 → DenS O23) (p17 : DenS I17 → Bool) (f17 : DenS I17 → DenS O17) (p14 : DenS I14 → Bool) (f14 : DenS I14 → DenS O14) (p19 : DenS I19 → Bool) (f19 : DenS I19 → DenS O19) (p21 : DenS I21 → Bool) (f21 : DenS I21 → DenS O21) (a0 : Den (.pair (.int .i64) (.pair (.int .u64) (.pair (.int .u64) (.pair (.int .u64) (.unit)))))) : Option (DenS O5) :=
  bif (p16 ()) then
    (bif ((p23 (a0.1, (a0.2.1, (a0.2.2.1, ())))) || (!(bif (!(f16 ()).1) then false else true))) then
      (bif ((!(f16 ()).1) || (!(f23 (a0.1, (a0.2.1, (a0.2.2.1, ())))).1)) then
        (some (false, ()))
      else bif (p17 (a0.1, (a0.2.1, (a0.2.2.1, ())))) then
        (bif (p17 (a0.1, (a0.2.2.1, (a0.2.1, ())))) then
          (bif (p17 (a0.1, a0.2.2)) then
            (bif (p17 (a0.1, (a0.2.1, a0.2.2.2))) then
              (bif (((f17 (a0.1, (a0.2.1, (a0.2.2.1, ())))).2.1 != (0 : Int)) || ((f17 (a0.1, a0.2.2)).2.1 != (0 : Int))) then
                (some (((((f17 (a0.1, (a0.2.1, (a0.2.2.1, ())))).2.1 == (0 : Int)) || (((f17 (a0.1, (a0.2.1, (a0.2.2.1, ())))).1 == (0 : Int)) && ((f17 (a0.1, (a0.2.2.1, (a0.2.1, ())))).1 == (0 : Int)))) && (((f17 (a0.1, a0.2.2)).2.1 == (0 : Int)) || ((f17 (a0.1, a0.2.2)).1 == (0 : Int)))), ()))
              else bif (((((((((f17 (a0.1, (a0.2.2.1, (a0.2.1, ())))).2.1 != (0 : Int)) || ((f17 (a0.1, (a0.2.1, a0.2.2.2))).2.1 != (0 : Int))) || ((f17 (a0.1, (a0.2.1, (a0.2.2.1, ())))).1 != (Go.IntKind.wrap Go.IntKind.i64 ((0 : Int) - (f17 (a0.1, (a0.2.2.1, (a0.2.1, ())))).1)))) || (!(((f17 (a0.1, (a0.2.1, (a0.2.2.1, ())))).1 == (0 : Int)) == (a0.2.1 == a0.2.2.1)))) || (decide ((f17 (a0.1, (a0.2.1, (a0.2.2.1, ())))).1 < (-(1 : Int))))) || (decide ((f17 (a0.1, (a0.2.1, (a0.2.2.1, ())))).1 > (1 : Int)))) || (((decide ((f17 (a0.1, (a0.2.1, (a0.2.2.1, ())))).1 ≤ (0 : Int))) && (decide ((f17 (a0.1, a0.2.2)).1 ≤ (0 : Int)))) && (decide ((f17 (a0.1, (a0.2.1, a0.2.2.2))).1 > (0 : Int))))) || (((decide ((f17 (a0.1, (a0.2.1, (a0.2.2.1, ())))).1 ≥ (0 : Int))) && (decide ((f17 (a0.1, a0.2.2)).1 ≥ (0 : Int)))) && (decide ((f17 (a0.1, (a0.2.1, a0.2.2.2))).1 < (0 : Int))))) then
                (some (false, ()))
              else bif (p14 (a0.1, (a0.2.1, (a0.2.2.1, (false, ()))))) then
                (bif (p19 (a0.1, (a0.2.1, (a0.2.2.1, ())))) then
                  (bif (p21 (a0.1, (a0.2.1, (a0.2.2.1, ())))) then
                    (bif ((((f14 (a0.1, (a0.2.1, (a0.2.2.1, (false, ()))))).2.2.1 != (0 : Int)) || ((f19 (a0.1, (a0.2.1, (a0.2.2.1, ())))).2.2.1 != (0 : Int))) || ((f21 (a0.1, (a0.2.1, (a0.2.2.1, ())))).2.2.1 != (0 : Int))) then
                      (some (false, ()))
                    else bif ((f14 (a0.1, (a0.2.1, (a0.2.2.1, (false, ()))))).1 == (3 : Int)) then
                      (some (true, ()))
                    else bif (decide ((f17 (a0.1, (a0.2.1, (a0.2.2.1, ())))).1 ≤ (0 : Int))) then
                      (some (((((f14 (a0.1, (a0.2.1, (a0.2.2.1, (false, ()))))).1 != (2 : Int)) && ((f19 (a0.1, (a0.2.1, (a0.2.2.1, ())))).1 == a0.2.1)) && ((f21 (a0.1, (a0.2.1, (a0.2.2.1, ())))).1 == a0.2.2.1)), ()))
                    else some (((((f14 (a0.1, (a0.2.1, (a0.2.2.1, (false, ()))))).1 != (0 : Int)) && ((f19 (a0.1, (a0.2.1, (a0.2.2.1, ())))).1 == a0.2.2.1)) && ((f21 (a0.1, (a0.2.1, (a0.2.2.1, ())))).1 == a0.2.1)), ()))
                  else none)
                else none)
              else none)
            else none)
          else none)
        else none)
      else none)
    else none)
  else none
-- 31 nodes
theorem r5 (p16 : DenS I16 → Bool) (f16 : DenS I16 → DenS O16) (p23 : DenS I23 → Bool) (f23 : DenS I23 → DenS O23) (p17 : DenS I17 → Bool) (f17 : DenS I17 → DenS O17) (p14 : DenS I14 → Bool) (f14 : DenS I14 → DenS O14) (p19 : DenS I19 → Bool) (f19 : DenS I19 → DenS O19) (p21 : DenS I21 → Bool) (f21 : DenS I21 → DenS O21) (a0 : Den (.pair (.int .i64) (.pair (.int .u64) (.pair (.int .u64) (.pair (.int .u64) (.unit)))))) :
    run { P := Go.Proofs.Tryd.prog, sums := [(16, ⟨I16, O16, p16, f16⟩), (23, ⟨I23, O23, p23, f23⟩), (17, ⟨I17, O17, p17, f17⟩), (14, ⟨I14, O14, p14, f14⟩), (19, ⟨I19, O19, p19, f19⟩), (21, ⟨I21, O21, p21, f21⟩)], loops := [], globs := G0 } 9 5 Go.Proofs.Tryd.f5 I5 O5 (a0, ()) = t5 p16 f16 p23 f23 p17 f17 p14 f14 p19 f19 p21 f21 a0 := by kernel_rfl
noncomputable def T5 (x : DenS I5) : Option (DenS O5) := t5 S16.pre S16.F S23.pre S23.F S17.pre S17.F S14.pre S14.F S19.pre S19.F S21.pre S21.F x.1
noncomputable def C5 : Cfg := { P := Go.Proofs.Tryd.prog, sums := [(16, S16), (23, S23), (17, S17), (14, S14), (19, S19), (21, S21)], loops := [], globs := G0 }
noncomputable def S5 : Sum := sumOf I5 O5 T5 (DenS.dflt O5)
theorem S5_sound : Sound Go.Proofs.Tryd.prog G0 5 S5 :=
  fn_sound C5 9 5 Go.Proofs.Tryd.f5 mixedOk (by kernel_rfl) (by kernel_rfl) (by kernel_rfl) ⟨S16_sound, ⟨S23_sound, ⟨S17_sound, ⟨S14_sound, ⟨S19_sound, ⟨S21_sound, trivial⟩⟩⟩⟩⟩⟩ trivial I5 O5 T5 _ fun x => r5 S16.pre S16.F S23.pre S23.F S17.pre S17.F S14.pre S14.F S19.pre S19.F S21.pre S21.F x.1

end Vx
