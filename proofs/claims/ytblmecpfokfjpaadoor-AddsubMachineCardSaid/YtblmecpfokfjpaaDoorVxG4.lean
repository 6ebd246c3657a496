/- Part 4 of the proof. What is proved: symbolic execution of the functions, proved sound; what each function of the program computes, and that every run ends with it; what these functions compute, in plain numbers. Conditions: each theorem bears its own. -/
import Derived.Test.YtblmecpfokfjpaaDoorVxG3
set_option linter.all false
set_option exponentiation.threshold 1000000
namespace Vx
open Go Go.Proofs
def k_len8 : List UInt8 := [0, 1, 2, 2, 3, 3, 3, 3, 4, 4, 4, 4, 4, 4, 4, 4, 5, 5, 5, 5, 5, 5, 5, 5, 5, 5, 5, 5, 5, 5, 5, 5, 6, 6, 6, 6, 6, 6, 6, 6, 6, 6, 6, 6, 6, 6, 6, 6, 6, 6, 6, 6, 6, 6, 6, 6, 6, 6, 6, 6, 6, 6, 6, 6, 7, 7, 7, 7, 7, 7, 7, 7, 7, 7, 7, 7, 7, 7, 7, 7, 7, 7, 7, 7, 7, 7, 7, 7, 7, 7, 7, 7, 7, 7, 7, 7, 7, 7, 7, 7, 7, 7, 7, 7, 7, 7, 7, 7, 7, 7, 7, 7, 7, 7, 7, 7, 7, 7, 7, 7, 7, 7, 7, 7, 7, 7, 7, 7, 8, 8, 8, 8, 8, 8, 8, 8, 8, 8, 8, 8, 8, 8, 8, 8, 8, 8, 8, 8, 8, 8, 8, 8, 8, 8, 8, 8, 8, 8, 8, 8, 8, 8, 8, 8, 8, 8, 8, 8, 8, 8, 8, 8, 8, 8, 8, 8, 8, 8, 8, 8, 8, 8, 8, 8, 8, 8, 8, 8, 8, 8, 8, 8, 8, 8, 8, 8, 8, 8, 8, 8, 8, 8, 8, 8, 8, 8, 8, 8, 8, 8, 8, 8, 8, 8, 8, 8, 8, 8, 8, 8, 8, 8, 8, 8, 8, 8, 8, 8, 8, 8, 8, 8, 8, 8, 8, 8, 8, 8, 8, 8, 8, 8, 8, 8, 8, 8, 8, 8, 8, 8, 8, 8, 8, 8, 8, 8]
def k_deb : List (Den (.int .u8)) := [0, 1, 56, 2, 57, 49, 28, 3, 61, 58, 42, 50, 38, 29, 17, 4, 62, 47, 59, 36, 45, 43, 51, 22, 53, 39, 33, 30, 24, 18, 12, 5, 63, 55, 48, 27, 60, 41, 37, 16, 46, 35, 44, 21, 52, 32, 23, 11, 54, 26, 40, 15, 34, 20, 31, 10, 25, 14, 19, 9, 13, 8, 7, 6]
def G1 : List (Nat × Sigma fun τ => List (Den τ)) := [(1, ⟨rowsSh, k_rows⟩), (2, ⟨.int .u8, k_deb⟩)]
theorem G01 : ∀ g x, findGlob G0 g = some x → findGlob G1 g = some x := fun g x h => by
  simp only [G0, G1, findGlob] at h ⊢
  cases hb : Nat.beq 1 g with
  | true => rw [hb] at h; exact h
  | false => rw [hb] at h; cases h
/-- vernier/format.Fields -/
abbrev I95 : Sig := [(false, .int .i64), (false, .int .u64)]
abbrev O95 : Sig := [(false, .bool), (false, .int .u64), (false, .int .u64), (false, .int .i64)]
noncomputable def t95 (p48 : DenS I48 → Bool) (f48 : DenS I48 → DenS O48) (p63 : DenS I63 → Bool) (f63 : DenS I63 → DenS O63) (a0 : Den (.int .i64)) (a1 : Den (.int .u64)) : Option (DenS O95) :=
  bif (p48 (a0, (a1, ()))) then
  (bif ((f48 (a0, (a1, ()))).1 != (0 : Int)) then
  (some (false, ((0 : Int), ((0 : Int), (f48 (a0, (a1, ())))))))
  else bif (bif (decide ((0 : Int) ≤ a0)) then (decide (a0 < ((4 : Nat) : Int))) else false) then
  (bif (p63 ((Vx.k_rows.getD (Int.toNat a0) ((0 : Int), ((0 : Int), ((0 : Int), ((0 : Int), ()))))), (a1, ()))) then
  (some ((f63 ((Vx.k_rows.getD (Int.toNat a0) ((0 : Int), ((0 : Int), ((0 : Int), ((0 : Int), ()))))), (a1, ()))).1, ((f63 ((Vx.k_rows.getD (Int.toNat a0) ((0 : Int), ((0 : Int), ((0 : Int), ((0 : Int), ()))))), (a1, ()))).2.1, ((f63 ((Vx.k_rows.getD (Int.toNat a0) ((0 : Int), ((0 : Int), ((0 : Int), ((0 : Int), ()))))), (a1, ()))).2.2.1, ((0 : Int), ())))))
  else none)
  else none)
  else none
theorem r95 (p48 : DenS I48 → Bool) (f48 : DenS I48 → DenS O48) (p63 : DenS I63 → Bool) (f63 : DenS I63 → DenS O63) (a0 : Den (.int .i64)) (a1 : Den (.int .u64)) :
    run { P := Go.Proofs.Tryd.prog, sums := [(48, ⟨I48, O48, p48, f48⟩), (63, ⟨I63, O63, p63, f63⟩)], loops := [], globs := G1 } 9 95 Go.Proofs.Tryd.f95 I95 O95 (a0, a1, ()) = t95 p48 f48 p63 f63 a0 a1 := by kernel_rfl
noncomputable def T95 (x : DenS I95) : Option (DenS O95) := t95 S48.pre S48.F S63.pre S63.F x.1 x.2.1
noncomputable def C95 : Cfg := { P := Go.Proofs.Tryd.prog, sums := [(48, S48), (63, S63)], loops := [], globs := G1 }
noncomputable def S95 : Sum := sumOf I95 O95 T95 (DenS.dflt O95)
theorem S95_sound : Sound Go.Proofs.Tryd.prog G1 95 S95 :=
  fn_sound C95 9 95 Go.Proofs.Tryd.f95 mixedOk (by kernel_rfl) (by kernel_rfl) (by kernel_rfl) ⟨S48_sound.more G01, ⟨S63_sound.more G01, trivial⟩⟩ trivial I95 O95 T95 _ fun x => r95 S48.pre S48.F S63.pre S63.F x.1 x.2.1
/-- vernier/addsub.finite -/
abbrev I47 : Sig := [(false, .int .i64), (true, .pair (.int .i64) (.pair (.int .i64) (.pair (.int .i64) (.pair (.int .i64) (.unit))))), (false, .int .u64)]
abbrev O47 : Sig := [(true, .pair (.bool) (.pair (.int .u64) (.pair (.int .i64) (.unit))))]
noncomputable def t47 (p95 : DenS I95 → Bool) (f95 : DenS I95 → DenS O95) (a0 : Den (.int .i64)) (a1 : Den (.pair (.int .i64) (.pair (.int .i64) (.pair (.int .i64) (.pair (.int .i64) (.unit)))))) (a2 : Den (.int .u64)) : Option (DenS O47) :=
  bif (p95 (a0, (a2, ()))) then
  (bif (decide ((f95 (a0, (a2, ()))).2.1 > (0 : Int))) then
  (bif (decide ((0 : Int) ≤ (Go.IntKind.wrap Go.IntKind.i64 (a1.2.1 - (1 : Int))))) then
  (some (((f95 (a0, (a2, ()))).1, ((Vx.orI Go.IntKind.u64 (f95 (a0, (a2, ()))).2.2.1 (Vx.shlI Go.IntKind.u64 (1 : Int) (Go.IntKind.wrap Go.IntKind.i64 (a1.2.1 - (1 : Int))))), ((Go.IntKind.wrap Go.IntKind.i64 ((Go.IntKind.wrap Go.IntKind.i64 ((Go.IntKind.wrap Go.IntKind.i64 (a1.2.2.1 - a1.2.1)) + (1 : Int))) + (Go.IntKind.wrap Go.IntKind.i64 ((Go.IntKind.wrap Go.IntKind.i64 (f95 (a0, (a2, ()))).2.1) - (1 : Int))))), ()))), ()))
  else none)
  else some (((f95 (a0, (a2, ()))).1, ((f95 (a0, (a2, ()))).2.2.1, ((Go.IntKind.wrap Go.IntKind.i64 ((Go.IntKind.wrap Go.IntKind.i64 (a1.2.2.1 - a1.2.1)) + (1 : Int))), ()))), ()))
  else none
theorem r47 (p95 : DenS I95 → Bool) (f95 : DenS I95 → DenS O95) (a0 : Den (.int .i64)) (a1 : Den (.pair (.int .i64) (.pair (.int .i64) (.pair (.int .i64) (.pair (.int .i64) (.unit)))))) (a2 : Den (.int .u64)) :
    run { P := Go.Proofs.Tryd.prog, sums := [(95, ⟨I95, O95, p95, f95⟩)], loops := [], globs := G1 } 9 47 Go.Proofs.Tryd.f47 I47 O47 (a0, a1, a2, ()) = t47 p95 f95 a0 a1 a2 := by kernel_rfl
noncomputable def T47 (x : DenS I47) : Option (DenS O47) := t47 S95.pre S95.F x.1 x.2.1 x.2.2.1
noncomputable def C47 : Cfg := { P := Go.Proofs.Tryd.prog, sums := [(95, S95)], loops := [], globs := G1 }
noncomputable def S47 : Sum := sumOf I47 O47 T47 (DenS.dflt O47)
theorem S47_sound : Sound Go.Proofs.Tryd.prog G1 47 S47 :=
  fn_sound C47 9 47 Go.Proofs.Tryd.f47 mixedOk (by kernel_rfl) (by kernel_rfl) (by kernel_rfl) ⟨S95_sound, trivial⟩ trivial I47 O47 T47 _ fun x => r47 S95.pre S95.F x.1 x.2.1 x.2.2.1
/-- vernier/wide.Shl -/
abbrev I71 : Sig := [(true, .pair (.int .u64) (.pair (.int .u64) (.unit))), (false, .int .i64)]
abbrev O71 : Sig := [(true, .pair (.int .u64) (.pair (.int .u64) (.unit)))]
noncomputable def t71 (a0 : Den (.pair (.int .u64) (.pair (.int .u64) (.unit)))) (a1 : Den (.int .i64)) : Option (DenS O71) :=
  bif (decide (a1 ≤ (0 : Int))) then
  (some ((a0.1, a0.2), ()))
  else bif (decide (a1 ≥ (128 : Int))) then
  (some (((0 : Int), ((0 : Int), ())), ()))
  else bif (decide (a1 ≥ (64 : Int))) then
  (bif (decide ((0 : Int) ≤ (Go.IntKind.wrap Go.IntKind.i64 (a1 - (64 : Int))))) then
  (some (((Vx.shlI Go.IntKind.u64 a0.2.1 (Go.IntKind.wrap Go.IntKind.i64 (a1 - (64 : Int)))), ((0 : Int), ())), ()))
  else none)
  else bif (decide ((0 : Int) ≤ a1)) then
  (bif (decide ((0 : Int) ≤ (Go.IntKind.wrap Go.IntKind.i64 ((64 : Int) - a1)))) then
  (bif (decide ((0 : Int) ≤ a1)) then
  (some (((Vx.orI Go.IntKind.u64 (Vx.shlI Go.IntKind.u64 a0.1 a1) (Vx.shrI Go.IntKind.u64 a0.2.1 (Go.IntKind.wrap Go.IntKind.i64 ((64 : Int) - a1)))), ((Vx.shlI Go.IntKind.u64 a0.2.1 a1), ())), ()))
  else none)
  else none)
  else none
theorem r71 (a0 : Den (.pair (.int .u64) (.pair (.int .u64) (.unit)))) (a1 : Den (.int .i64)) :
    run { P := Go.Proofs.Tryd.prog, sums := [], loops := [], globs := G1 } 9 71 Go.Proofs.Tryd.f71 I71 O71 (a0, a1, ()) = t71 a0 a1 := by kernel_rfl
noncomputable def T71 (x : DenS I71) : Option (DenS O71) := t71 x.1 x.2.1
noncomputable def C71 : Cfg := { P := Go.Proofs.Tryd.prog, sums := [], loops := [], globs := G1 }
noncomputable def S71 : Sum := sumOf I71 O71 T71 (DenS.dflt O71)
theorem S71_sound : Sound Go.Proofs.Tryd.prog G1 71 S71 :=
  fn_sound C71 9 71 Go.Proofs.Tryd.f71 mixedOk (by kernel_rfl) (by kernel_rfl) (by kernel_rfl) trivial trivial I71 O71 T71 _ fun x => r71 x.1 x.2.1
/-- vernier/wide.Shr -/
abbrev I91 : Sig := [(true, .pair (.int .u64) (.pair (.int .u64) (.unit))), (false, .int .i64)]
abbrev O91 : Sig := [(true, .pair (.int .u64) (.pair (.int .u64) (.unit)))]
noncomputable def t91 (a0 : Den (.pair (.int .u64) (.pair (.int .u64) (.unit)))) (a1 : Den (.int .i64)) : Option (DenS O91) :=
  bif (decide (a1 ≤ (0 : Int))) then
  (some ((a0.1, a0.2), ()))
  else bif (decide (a1 ≥ (128 : Int))) then
  (some (((0 : Int), ((0 : Int), ())), ()))
  else bif (decide (a1 ≥ (64 : Int))) then
  (bif (decide ((0 : Int) ≤ (Go.IntKind.wrap Go.IntKind.i64 (a1 - (64 : Int))))) then
  (some (((0 : Int), ((Vx.shrI Go.IntKind.u64 a0.1 (Go.IntKind.wrap Go.IntKind.i64 (a1 - (64 : Int)))), ())), ()))
  else none)
  else bif (decide ((0 : Int) ≤ a1)) then
  (bif (decide ((0 : Int) ≤ a1)) then
  (bif (decide ((0 : Int) ≤ (Go.IntKind.wrap Go.IntKind.i64 ((64 : Int) - a1)))) then
  (some (((Vx.shrI Go.IntKind.u64 a0.1 a1), ((Vx.orI Go.IntKind.u64 (Vx.shrI Go.IntKind.u64 a0.2.1 a1) (Vx.shlI Go.IntKind.u64 a0.1 (Go.IntKind.wrap Go.IntKind.i64 ((64 : Int) - a1)))), ())), ()))
  else none)
  else none)
  else none
theorem r91 (a0 : Den (.pair (.int .u64) (.pair (.int .u64) (.unit)))) (a1 : Den (.int .i64)) :
    run { P := Go.Proofs.Tryd.prog, sums := [], loops := [], globs := G1 } 9 91 Go.Proofs.Tryd.f91 I91 O91 (a0, a1, ()) = t91 a0 a1 := by kernel_rfl
noncomputable def T91 (x : DenS I91) : Option (DenS O91) := t91 x.1 x.2.1
noncomputable def C91 : Cfg := { P := Go.Proofs.Tryd.prog, sums := [], loops := [], globs := G1 }
noncomputable def S91 : Sum := sumOf I91 O91 T91 (DenS.dflt O91)
theorem S91_sound : Sound Go.Proofs.Tryd.prog G1 91 S91 :=
  fn_sound C91 9 91 Go.Proofs.Tryd.f91 mixedOk (by kernel_rfl) (by kernel_rfl) (by kernel_rfl) trivial trivial I91 O91 T91 _ fun x => r91 x.1 x.2.1
/-- math/bits.Add64 -/
abbrev I112 : Sig := sig3
abbrev O112 : Sig := sig2
noncomputable def S112 : Sum := addSum
theorem S112_sound : Sound Go.Proofs.Tryd.prog G1 112 S112 := add_sound Go.Proofs.Tryd.func112 (by kernel_rfl) (by kernel_rfl) (by kernel_rfl) (by kernel_rfl)
/-- vernier/wide.Add -/
abbrev I92 : Sig := [(true, .pair (.int .u64) (.pair (.int .u64) (.unit))), (true, .pair (.int .u64) (.pair (.int .u64) (.unit)))]
abbrev O92 : Sig := [(true, .pair (.int .u64) (.pair (.int .u64) (.unit))), (false, .int .u64)]
noncomputable def t92 (p112 : DenS I112 → Bool) (f112 : DenS I112 → DenS O112) (a0 : Den (.pair (.int .u64) (.pair (.int .u64) (.unit)))) (a1 : Den (.pair (.int .u64) (.pair (.int .u64) (.unit)))) : Option (DenS O92) :=
  bif (p112 (a0.2.1, (a1.2.1, ((0 : Int), ())))) then
  (bif (p112 (a0.1, (a1.1, (f112 (a0.2.1, (a1.2.1, ((0 : Int), ())))).2))) then
  (some (((f112 (a0.1, (a1.1, (f112 (a0.2.1, (a1.2.1, ((0 : Int), ())))).2))).1, ((f112 (a0.2.1, (a1.2.1, ((0 : Int), ())))).1, ())), (f112 (a0.1, (a1.1, (f112 (a0.2.1, (a1.2.1, ((0 : Int), ())))).2))).2))
  else none)
  else none
theorem r92 (p112 : DenS I112 → Bool) (f112 : DenS I112 → DenS O112) (a0 : Den (.pair (.int .u64) (.pair (.int .u64) (.unit)))) (a1 : Den (.pair (.int .u64) (.pair (.int .u64) (.unit)))) :
    run { P := Go.Proofs.Tryd.prog, sums := [(112, ⟨I112, O112, p112, f112⟩)], loops := [], globs := G1 } 9 92 Go.Proofs.Tryd.f92 I92 O92 (a0, a1, ()) = t92 p112 f112 a0 a1 := by kernel_rfl
noncomputable def T92 (x : DenS I92) : Option (DenS O92) := t92 S112.pre S112.F x.1 x.2.1
noncomputable def C92 : Cfg := { P := Go.Proofs.Tryd.prog, sums := [(112, S112)], loops := [], globs := G1 }
noncomputable def S92 : Sum := sumOf I92 O92 T92 (DenS.dflt O92)
theorem S92_sound : Sound Go.Proofs.Tryd.prog G1 92 S92 :=
  fn_sound C92 9 92 Go.Proofs.Tryd.f92 mixedOk (by kernel_rfl) (by kernel_rfl) (by kernel_rfl) ⟨S112_sound, trivial⟩ trivial I92 O92 T92 _ fun x => r92 S112.pre S112.F x.1 x.2.1
/-- vernier/wide.Cmp -/
abbrev I93 : Sig := [(true, .pair (.int .u64) (.pair (.int .u64) (.unit))), (true, .pair (.int .u64) (.pair (.int .u64) (.unit)))]
abbrev O93 : Sig := [(false, .int .i64)]
noncomputable def t93 (a0 : Den (.pair (.int .u64) (.pair (.int .u64) (.unit)))) (a1 : Den (.pair (.int .u64) (.pair (.int .u64) (.unit)))) : Option (DenS O93) :=
  bif ((a0.1 == a1.1) && (a0.2.1 == a1.2.1)) then
  (some ((0 : Int), ()))
  else bif ((decide (a0.1 < a1.1)) || ((a0.1 == a1.1) && (decide (a0.2.1 < a1.2.1)))) then
  (some ((-(1 : Int)), ()))
  else some ((1 : Int), ())
theorem r93 (a0 : Den (.pair (.int .u64) (.pair (.int .u64) (.unit)))) (a1 : Den (.pair (.int .u64) (.pair (.int .u64) (.unit)))) :
    run { P := Go.Proofs.Tryd.prog, sums := [], loops := [], globs := G1 } 9 93 Go.Proofs.Tryd.f93 I93 O93 (a0, a1, ()) = t93 a0 a1 := by kernel_rfl
noncomputable def T93 (x : DenS I93) : Option (DenS O93) := t93 x.1 x.2.1
noncomputable def C93 : Cfg := { P := Go.Proofs.Tryd.prog, sums := [], loops := [], globs := G1 }
noncomputable def S93 : Sum := sumOf I93 O93 T93 (DenS.dflt O93)
theorem S93_sound : Sound Go.Proofs.Tryd.prog G1 93 S93 :=
  fn_sound C93 9 93 Go.Proofs.Tryd.f93 mixedOk (by kernel_rfl) (by kernel_rfl) (by kernel_rfl) trivial trivial I93 O93 T93 _ fun x => r93 x.1 x.2.1
/-- math/bits.Sub64 -/
abbrev I116 : Sig := sig3
abbrev O116 : Sig := sig2
noncomputable def S116 : Sum := subSum
theorem S116_sound : Sound Go.Proofs.Tryd.prog G1 116 S116 := sub_sound Go.Proofs.Tryd.func116 (by kernel_rfl) (by kernel_rfl) (by kernel_rfl) (by kernel_rfl)
/-- vernier/wide.Sub -/
abbrev I94 : Sig := [(true, .pair (.int .u64) (.pair (.int .u64) (.unit))), (true, .pair (.int .u64) (.pair (.int .u64) (.unit)))]
abbrev O94 : Sig := [(true, .pair (.int .u64) (.pair (.int .u64) (.unit))), (false, .int .u64)]
noncomputable def t94 (p116 : DenS I116 → Bool) (f116 : DenS I116 → DenS O116) (a0 : Den (.pair (.int .u64) (.pair (.int .u64) (.unit)))) (a1 : Den (.pair (.int .u64) (.pair (.int .u64) (.unit)))) : Option (DenS O94) :=
  bif (p116 (a0.2.1, (a1.2.1, ((0 : Int), ())))) then
  (bif (p116 (a0.1, (a1.1, (f116 (a0.2.1, (a1.2.1, ((0 : Int), ())))).2))) then
  (some (((f116 (a0.1, (a1.1, (f116 (a0.2.1, (a1.2.1, ((0 : Int), ())))).2))).1, ((f116 (a0.2.1, (a1.2.1, ((0 : Int), ())))).1, ())), (f116 (a0.1, (a1.1, (f116 (a0.2.1, (a1.2.1, ((0 : Int), ())))).2))).2))
  else none)
  else none
theorem r94 (p116 : DenS I116 → Bool) (f116 : DenS I116 → DenS O116) (a0 : Den (.pair (.int .u64) (.pair (.int .u64) (.unit)))) (a1 : Den (.pair (.int .u64) (.pair (.int .u64) (.unit)))) :
    run { P := Go.Proofs.Tryd.prog, sums := [(116, ⟨I116, O116, p116, f116⟩)], loops := [], globs := G1 } 9 94 Go.Proofs.Tryd.f94 I94 O94 (a0, a1, ()) = t94 p116 f116 a0 a1 := by kernel_rfl
noncomputable def T94 (x : DenS I94) : Option (DenS O94) := t94 S116.pre S116.F x.1 x.2.1
noncomputable def C94 : Cfg := { P := Go.Proofs.Tryd.prog, sums := [(116, S116)], loops := [], globs := G1 }
noncomputable def S94 : Sum := sumOf I94 O94 T94 (DenS.dflt O94)
theorem S94_sound : Sound Go.Proofs.Tryd.prog G1 94 S94 :=
  fn_sound C94 9 94 Go.Proofs.Tryd.f94 mixedOk (by kernel_rfl) (by kernel_rfl) (by kernel_rfl) ⟨S116_sound, trivial⟩ trivial I94 O94 T94 _ fun x => r94 S116.pre S116.F x.1 x.2.1
/-- vernier/format.all -/
abbrev I77 : Sig := [(true, .pair (.int .i64) (.pair (.int .i64) (.pair (.int .i64) (.pair (.int .i64) (.unit)))))]
abbrev O77 : Sig := [(false, .int .u64)]
noncomputable def t77 (p54 : DenS I54 → Bool) (f54 : DenS I54 → DenS O54) (a0 : Den (.pair (.int .i64) (.pair (.int .i64) (.pair (.int .i64) (.pair (.int .i64) (.unit)))))) : Option (DenS O77) :=
  bif (p54 ((Go.IntKind.wrap Go.IntKind.i64 (a0.1 - a0.2.1)), ())) then
  (some (f54 ((Go.IntKind.wrap Go.IntKind.i64 (a0.1 - a0.2.1)), ())))
  else none
theorem r77 (p54 : DenS I54 → Bool) (f54 : DenS I54 → DenS O54) (a0 : Den (.pair (.int .i64) (.pair (.int .i64) (.pair (.int .i64) (.pair (.int .i64) (.unit)))))) :
    run { P := Go.Proofs.Tryd.prog, sums := [(54, ⟨I54, O54, p54, f54⟩)], loops := [], globs := G1 } 9 77 Go.Proofs.Tryd.f77 I77 O77 (a0, ()) = t77 p54 f54 a0 := by kernel_rfl
noncomputable def T77 (x : DenS I77) : Option (DenS O77) := t77 S54.pre S54.F x.1
noncomputable def C77 : Cfg := { P := Go.Proofs.Tryd.prog, sums := [(54, S54)], loops := [], globs := G1 }
noncomputable def S77 : Sum := sumOf I77 O77 T77 (DenS.dflt O77)
theorem S77_sound : Sound Go.Proofs.Tryd.prog G1 77 S77 :=
  fn_sound C77 9 77 Go.Proofs.Tryd.f77 mixedOk (by kernel_rfl) (by kernel_rfl) (by kernel_rfl) ⟨S54_sound.more G01, trivial⟩ trivial I77 O77 T77 _ fun x => r77 S54.pre S54.F x.1
/-- vernier/format.Zero -/
abbrev I33 : Sig := [(false, .int .i64), (false, .bool)]
abbrev O33 : Sig := [(false, .int .u64), (false, .int .i64)]
noncomputable def t33 (p77 : DenS I77 → Bool) (f77 : DenS I77 → DenS O77) (p78 : DenS I78 → Bool) (f78 : DenS I78 → DenS O78) (p22 : DenS I22 → Bool) (f22 : DenS I22 → DenS O22) (p54 : DenS I54 → Bool) (f54 : DenS I54 → DenS O54) (p55 : DenS I55 → Bool) (f55 : DenS I55 → DenS O55) (a0 : Den (.int .i64)) (a1 : Den (.bool)) : Option (DenS O33) :=
  bif (p22 (a0, ())) then
  (bif ((f22 (a0, ())).2.1 != (0 : Int)) then
  (some ((0 : Int), (f22 (a0, ())).2))
  else bif (p54 ((Go.IntKind.wrap Go.IntKind.i64 ((f22 (a0, ())).1.1 - (f22 (a0, ())).1.2.1)), ())) then
  (bif (p77 ((f22 (a0, ())).1, ())) then
  (bif (p78 ((f22 (a0, ())).1, ())) then
  (bif (p55 ((f22 (a0, ())).1, (a1, ((Go.IntKind.wrap Go.IntKind.u64 ((f54 ((Go.IntKind.wrap Go.IntKind.i64 ((f22 (a0, ())).1.1 - (f22 (a0, ())).1.2.1)), ())).1 - (f77 ((f22 (a0, ())).1, ())).1)), (f78 ((f22 (a0, ())).1, ())))))) then
  (some ((f55 ((f22 (a0, ())).1, (a1, ((Go.IntKind.wrap Go.IntKind.u64 ((f54 ((Go.IntKind.wrap Go.IntKind.i64 ((f22 (a0, ())).1.1 - (f22 (a0, ())).1.2.1)), ())).1 - (f77 ((f22 (a0, ())).1, ())).1)), (f78 ((f22 (a0, ())).1, ())))))).1, ((0 : Int), ())))
  else none)
  else none)
  else none)
  else none)
  else none
theorem r33 (p77 : DenS I77 → Bool) (f77 : DenS I77 → DenS O77) (p78 : DenS I78 → Bool) (f78 : DenS I78 → DenS O78) (p22 : DenS I22 → Bool) (f22 : DenS I22 → DenS O22) (p54 : DenS I54 → Bool) (f54 : DenS I54 → DenS O54) (p55 : DenS I55 → Bool) (f55 : DenS I55 → DenS O55) (a0 : Den (.int .i64)) (a1 : Den (.bool)) :
    run { P := Go.Proofs.Tryd.prog, sums := [(77, ⟨I77, O77, p77, f77⟩), (78, ⟨I78, O78, p78, f78⟩), (22, ⟨I22, O22, p22, f22⟩), (54, ⟨I54, O54, p54, f54⟩), (55, ⟨I55, O55, p55, f55⟩)], loops := [], globs := G1 } 9 33 Go.Proofs.Tryd.f33 I33 O33 (a0, a1, ()) = t33 p77 f77 p78 f78 p22 f22 p54 f54 p55 f55 a0 a1 := by kernel_rfl
noncomputable def T33 (x : DenS I33) : Option (DenS O33) := t33 S77.pre S77.F S78.pre S78.F S22.pre S22.F S54.pre S54.F S55.pre S55.F x.1 x.2.1
noncomputable def C33 : Cfg := { P := Go.Proofs.Tryd.prog, sums := [(77, S77), (78, S78), (22, S22), (54, S54), (55, S55)], loops := [], globs := G1 }
noncomputable def S33 : Sum := sumOf I33 O33 T33 (DenS.dflt O33)
theorem S33_sound : Sound Go.Proofs.Tryd.prog G1 33 S33 :=
  fn_sound C33 9 33 Go.Proofs.Tryd.f33 mixedOk (by kernel_rfl) (by kernel_rfl) (by kernel_rfl) ⟨S77_sound, ⟨S78_sound.more G01, ⟨S22_sound.more G01, ⟨S54_sound.more G01, ⟨S55_sound.more G01, trivial⟩⟩⟩⟩⟩ trivial I33 O33 T33 _ fun x => r33 S77.pre S77.F S78.pre S78.F S22.pre S22.F S54.pre S54.F S55.pre S55.F x.1 x.2.1
/-- vernier/round.modeError -/
abbrev I117 : Sig := [(false, .int .i64)]
abbrev O117 : Sig := [(false, .int .i64)]
noncomputable def t117 (a0 : Den (.int .i64)) : Option (DenS O117) :=
  bif ((decide (a0 < (0 : Int))) || (decide (a0 > (5 : Int)))) then
  (some ((3 : Int), ()))
  else some ((0 : Int), ())
theorem r117 (a0 : Den (.int .i64)) :
    run { P := Go.Proofs.Tryd.prog, sums := [], loops := [], globs := G1 } 9 117 Go.Proofs.Tryd.f117 I117 O117 (a0, ()) = t117 a0 := by kernel_rfl
noncomputable def T117 (x : DenS I117) : Option (DenS O117) := t117 x.1
noncomputable def C117 : Cfg := { P := Go.Proofs.Tryd.prog, sums := [], loops := [], globs := G1 }
noncomputable def S117 : Sum := sumOf I117 O117 T117 (DenS.dflt O117)
theorem S117_sound : Sound Go.Proofs.Tryd.prog G1 117 S117 :=
  fn_sound C117 9 117 Go.Proofs.Tryd.f117 mixedOk (by kernel_rfl) (by kernel_rfl) (by kernel_rfl) trivial trivial I117 O117 T117 _ fun x => r117 x.1
/-- vernier/round.refuses -/
abbrev I96 : Sig := [(false, .int .i64), (false, .int .i64)]
abbrev O96 : Sig := [(true, .pair (.int .i64) (.pair (.int .i64) (.pair (.int .i64) (.pair (.int .i64) (.unit))))), (false, .int .i64)]
noncomputable def t96 (p22 : DenS I22 → Bool) (f22 : DenS I22 → DenS O22) (p117 : DenS I117 → Bool) (f117 : DenS I117 → DenS O117) (a0 : Den (.int .i64)) (a1 : Den (.int .i64)) : Option (DenS O96) :=
  bif (p22 (a0, ())) then
  (bif ((f22 (a0, ())).2.1 != (0 : Int)) then
  (some (f22 (a0, ())))
  else bif (p117 (a1, ())) then
  (some ((f22 (a0, ())).1, (f117 (a1, ()))))
  else none)
  else none
theorem r96 (p22 : DenS I22 → Bool) (f22 : DenS I22 → DenS O22) (p117 : DenS I117 → Bool) (f117 : DenS I117 → DenS O117) (a0 : Den (.int .i64)) (a1 : Den (.int .i64)) :
    run { P := Go.Proofs.Tryd.prog, sums := [(22, ⟨I22, O22, p22, f22⟩), (117, ⟨I117, O117, p117, f117⟩)], loops := [], globs := G1 } 9 96 Go.Proofs.Tryd.f96 I96 O96 (a0, a1, ()) = t96 p22 f22 p117 f117 a0 a1 := by kernel_rfl
noncomputable def T96 (x : DenS I96) : Option (DenS O96) := t96 S22.pre S22.F S117.pre S117.F x.1 x.2.1
noncomputable def C96 : Cfg := { P := Go.Proofs.Tryd.prog, sums := [(22, S22), (117, S117)], loops := [], globs := G1 }
noncomputable def S96 : Sum := sumOf I96 O96 T96 (DenS.dflt O96)
theorem S96_sound : Sound Go.Proofs.Tryd.prog G1 96 S96 :=
  fn_sound C96 9 96 Go.Proofs.Tryd.f96 mixedOk (by kernel_rfl) (by kernel_rfl) (by kernel_rfl) ⟨S22_sound.more G01, ⟨S117_sound, trivial⟩⟩ trivial I96 O96 T96 _ fun x => r96 S22.pre S22.F S117.pre S117.F x.1 x.2.1
/-- vernier/nat.trim -/
abbrev I106 : Sig := [(false, .slice (.int .u64))]
abbrev O106 : Sig := [(false, .slice (.int .u64))]
abbrev P106_2 : Pat := ⟨21, [(0, .one (.sl (.int .u64))), (3, .one (.v .i64))], []⟩
abbrev A106_2 : List (Nat × Shape) := []
abbrev X106_2 : List (Nat × Pat) := [(0, ⟨21, [(0, .one (.sl (.int .u64))), (3, .one (.v .i64))], []⟩)]
abbrev Q106_2 : Option Pat := none
noncomputable def h106_2 {R : Type} (L : Pat.D P106_2 → Option R) (e : OutT X106_2 Q106_2 → Option R) (x : Pat.D P106_2) : Option R :=
  bif (((decide ((0 : Int) ≤ (Go.IntKind.wrap Go.IntKind.i64 (x.1.2.1 - (1 : Int))))) && (decide ((Go.IntKind.wrap Go.IntKind.i64 (x.1.2.1 - (1 : Int))) < (x.1.1.length : Int)))) || (!(decide (x.1.2.1 > (0 : Int))))) then
  (bif ((decide (x.1.2.1 > (0 : Int))) && ((x.1.1.getD (Int.toNat (Go.IntKind.wrap Go.IntKind.i64 (x.1.2.1 - (1 : Int)))) (0 : Int)) == (0 : Int))) then
  ((L ((x.1.1, ((Go.IntKind.wrap Go.IntKind.i64 (x.1.2.1 - (1 : Int))), ())), ())))
  else (e (.inl (x.1, ()))))
  else none
theorem s106_2 (w106_2 : Pat.D P106_2 → Option (OutT X106_2 Q106_2)) (d : Nat) (R : Type) (L : Pat.D P106_2 → Option R) (e : OutT X106_2 Q106_2 → Option R) (x : Pat.D P106_2) :
    lStep { P := Go.Proofs.Tryd.prog, sums := [], loops := [(106, 2, LoopSpec.of P106_2 A106_2 X106_2 Q106_2 w106_2)], globs := G1 } (d + 2) 106 (bodyOf Go.Proofs.Tryd.f106 2) P106_2 A106_2 X106_2 Q106_2 (R := R) L e x = h106_2 L e x := by kernel_rfl
theorem m106_2 : Par fun L e x => h106_2 L e x := by
  intro A B rel L L' e e' h0 hL he x
  unfold h106_2
  repeat' (first | exact h0 | exact hL _ | exact he _ | apply rel_cond | (apply rel_obind h0; intro _) | (apply rel_obind2 <;> intro _))
noncomputable def t106 (w106_2 : Pat.D P106_2 → Option (OutT X106_2 Q106_2)) (a0 : Den (.slice (.int .u64))) : Option (DenS O106) :=
  Vx.obind (w106_2 ((a0, ((a0.length : Int), ())), ())) fun y0 =>
  Vx.obind2 y0 (fun y1 =>
  bif ((decide ((0 : Int) ≤ y1.1.2.1)) && (decide (y1.1.2.1 ≤ (y1.1.1.length : Int)))) then
  (some (((y1.1.1.take (Int.toNat y1.1.2.1)).drop (Int.toNat (0 : Int))), ()))
  else none) (fun z1 =>
  none)
theorem r106 (w106_2 : Pat.D P106_2 → Option (OutT X106_2 Q106_2)) (a0 : Den (.slice (.int .u64))) :
    run { P := Go.Proofs.Tryd.prog, sums := [], loops := [(106, 2, LoopSpec.of P106_2 A106_2 X106_2 Q106_2 w106_2)], globs := G1 } 9 106 Go.Proofs.Tryd.f106 I106 O106 (a0, ()) = t106 w106_2 a0 := by kernel_rfl
noncomputable def W106_2 : P106_2.D → Option (OutT X106_2 Q106_2) := lfix fun L => h106_2 L some
noncomputable def T106 (x : DenS I106) : Option (DenS O106) := t106 W106_2 x.1
noncomputable def C106 : Cfg := { P := Go.Proofs.Tryd.prog, sums := [], loops := [(106, 2, LoopSpec.of P106_2 A106_2 X106_2 Q106_2 W106_2)], globs := G1 }
noncomputable def S106 : Sum := sumOf I106 O106 T106 (DenS.dflt O106)
theorem S106_sound : Sound Go.Proofs.Tryd.prog G1 106 S106 :=
  fn_sound C106 9 106 Go.Proofs.Tryd.f106 mixedOk (by kernel_rfl) (by kernel_rfl) (by kernel_rfl) trivial ⟨rfl, fun d => loopOk_of (fun L e x => h106_2 L e x) (m106_2) (fun R L e x => s106_2 W106_2 d R L e x), trivial⟩ I106 O106 T106 _ fun x => r106 W106_2 x.1
/-- vernier/nat.copied -/
abbrev I122 : Sig := [(false, .slice (.int .u64))]
abbrev O122 : Sig := [(false, .slice (.int .u64))]
noncomputable def t122 (p106 : DenS I106 → Bool) (f106 : DenS I106 → DenS O106) (a0 : Den (.slice (.int .u64))) : Option (DenS O122) :=
  bif (p106 (a0, ())) then
  (bif ((decide ((0 : Int) ≤ ((f106 (a0, ())).1.length : Int))) && (decide ((((f106 (a0, ())).1.length : Int) * (8 : Int)) ≤ (140737488355328 : Int)))) then
  (some ((((f106 (a0, ())).1.take (List.replicate (Int.toNat ((f106 (a0, ())).1.length : Int)) (0 : Int)).length) ++ ((List.replicate (Int.toNat ((f106 (a0, ())).1.length : Int)) (0 : Int)).drop (f106 (a0, ())).1.length)), ()))
  else none)
  else none
theorem r122 (p106 : DenS I106 → Bool) (f106 : DenS I106 → DenS O106) (a0 : Den (.slice (.int .u64))) :
    run { P := Go.Proofs.Tryd.prog, sums := [(106, ⟨I106, O106, p106, f106⟩)], loops := [], globs := G1 } 9 122 Go.Proofs.Tryd.f122 I122 O122 (a0, ()) = t122 p106 f106 a0 := by kernel_rfl
noncomputable def T122 (x : DenS I122) : Option (DenS O122) := t122 S106.pre S106.F x.1
noncomputable def C122 : Cfg := { P := Go.Proofs.Tryd.prog, sums := [(106, S106)], loops := [], globs := G1 }
noncomputable def S122 : Sum := sumOf I122 O122 T122 (DenS.dflt O122)
theorem S122_sound : Sound Go.Proofs.Tryd.prog G1 122 S122 :=
  fn_sound C122 9 122 Go.Proofs.Tryd.f122 mixedOk (by kernel_rfl) (by kernel_rfl) (by kernel_rfl) ⟨S106_sound, trivial⟩ trivial I122 O122 T122 _ fun x => r122 S106.pre S106.F x.1
/-- vernier/nat.Trim -/
abbrev I99 : Sig := [(false, .slice (.int .u64))]
abbrev O99 : Sig := [(false, .slice (.int .u64))]
noncomputable def t99 (p122 : DenS I122 → Bool) (f122 : DenS I122 → DenS O122) (a0 : Den (.slice (.int .u64))) : Option (DenS O99) :=
  bif (p122 (a0, ())) then
  (some (f122 (a0, ())))
  else none
theorem r99 (p122 : DenS I122 → Bool) (f122 : DenS I122 → DenS O122) (a0 : Den (.slice (.int .u64))) :
    run { P := Go.Proofs.Tryd.prog, sums := [(122, ⟨I122, O122, p122, f122⟩)], loops := [], globs := G1 } 9 99 Go.Proofs.Tryd.f99 I99 O99 (a0, ()) = t99 p122 f122 a0 := by kernel_rfl
noncomputable def T99 (x : DenS I99) : Option (DenS O99) := t99 S122.pre S122.F x.1
noncomputable def C99 : Cfg := { P := Go.Proofs.Tryd.prog, sums := [(122, S122)], loops := [], globs := G1 }
noncomputable def S99 : Sum := sumOf I99 O99 T99 (DenS.dflt O99)
theorem S99_sound : Sound Go.Proofs.Tryd.prog G1 99 S99 :=
  fn_sound C99 9 99 Go.Proofs.Tryd.f99 mixedOk (by kernel_rfl) (by kernel_rfl) (by kernel_rfl) ⟨S122_sound, trivial⟩ trivial I99 O99 T99 _ fun x => r99 S122.pre S122.F x.1
/-- math/bits.Len64 -/
abbrev I103 : Sig := [(false, .int .u64)]
abbrev O103 : Sig := [(false, .int .i64)]
noncomputable def t103 (a0 : Den (.int .u64)) : Option (DenS O103) :=
  bif (decide (a0 ≥ (4294967296 : Int))) then
  (bif (decide ((Vx.shrI Go.IntKind.u64 a0 (32 : Int)) ≥ (65536 : Int))) then
  (bif (decide ((Vx.shrI Go.IntKind.u64 (Vx.shrI Go.IntKind.u64 a0 (32 : Int)) (16 : Int)) ≥ (256 : Int))) then
  (bif ((decide ((0 : Int) ≤ (Go.IntKind.wrap Go.IntKind.u8 (Vx.shrI Go.IntKind.u64 (Vx.shrI Go.IntKind.u64 (Vx.shrI Go.IntKind.u64 a0 (32 : Int)) (16 : Int)) (8 : Int))))) && (decide ((Go.IntKind.wrap Go.IntKind.u8 (Vx.shrI Go.IntKind.u64 (Vx.shrI Go.IntKind.u64 (Vx.shrI Go.IntKind.u64 a0 (32 : Int)) (16 : Int)) (8 : Int))) < (256 : Int)))) then
  (some ((Go.IntKind.wrap Go.IntKind.i64 ((Go.IntKind.wrap Go.IntKind.i64 ((Go.IntKind.wrap Go.IntKind.i64 ((32 : Int) + (16 : Int))) + (8 : Int))) + (Go.IntKind.wrap Go.IntKind.i64 ((UInt8.toNat (Vx.k_len8.getD (Int.toNat (Go.IntKind.wrap Go.IntKind.u8 (Vx.shrI Go.IntKind.u64 (Vx.shrI Go.IntKind.u64 (Vx.shrI Go.IntKind.u64 a0 (32 : Int)) (16 : Int)) (8 : Int)))) (0 : UInt8))) : Int)))), ()))
  else none)
  else bif ((decide ((0 : Int) ≤ (Go.IntKind.wrap Go.IntKind.u8 (Vx.shrI Go.IntKind.u64 (Vx.shrI Go.IntKind.u64 a0 (32 : Int)) (16 : Int))))) && (decide ((Go.IntKind.wrap Go.IntKind.u8 (Vx.shrI Go.IntKind.u64 (Vx.shrI Go.IntKind.u64 a0 (32 : Int)) (16 : Int))) < (256 : Int)))) then
  (some ((Go.IntKind.wrap Go.IntKind.i64 ((Go.IntKind.wrap Go.IntKind.i64 ((32 : Int) + (16 : Int))) + (Go.IntKind.wrap Go.IntKind.i64 ((UInt8.toNat (Vx.k_len8.getD (Int.toNat (Go.IntKind.wrap Go.IntKind.u8 (Vx.shrI Go.IntKind.u64 (Vx.shrI Go.IntKind.u64 a0 (32 : Int)) (16 : Int)))) (0 : UInt8))) : Int)))), ()))
  else none)
  else bif (decide ((Vx.shrI Go.IntKind.u64 a0 (32 : Int)) ≥ (256 : Int))) then
  (bif ((decide ((0 : Int) ≤ (Go.IntKind.wrap Go.IntKind.u8 (Vx.shrI Go.IntKind.u64 (Vx.shrI Go.IntKind.u64 a0 (32 : Int)) (8 : Int))))) && (decide ((Go.IntKind.wrap Go.IntKind.u8 (Vx.shrI Go.IntKind.u64 (Vx.shrI Go.IntKind.u64 a0 (32 : Int)) (8 : Int))) < (256 : Int)))) then
  (some ((Go.IntKind.wrap Go.IntKind.i64 ((Go.IntKind.wrap Go.IntKind.i64 ((32 : Int) + (8 : Int))) + (Go.IntKind.wrap Go.IntKind.i64 ((UInt8.toNat (Vx.k_len8.getD (Int.toNat (Go.IntKind.wrap Go.IntKind.u8 (Vx.shrI Go.IntKind.u64 (Vx.shrI Go.IntKind.u64 a0 (32 : Int)) (8 : Int)))) (0 : UInt8))) : Int)))), ()))
  else none)
  else bif ((decide ((0 : Int) ≤ (Go.IntKind.wrap Go.IntKind.u8 (Vx.shrI Go.IntKind.u64 a0 (32 : Int))))) && (decide ((Go.IntKind.wrap Go.IntKind.u8 (Vx.shrI Go.IntKind.u64 a0 (32 : Int))) < (256 : Int)))) then
  (some ((Go.IntKind.wrap Go.IntKind.i64 ((32 : Int) + (Go.IntKind.wrap Go.IntKind.i64 ((UInt8.toNat (Vx.k_len8.getD (Int.toNat (Go.IntKind.wrap Go.IntKind.u8 (Vx.shrI Go.IntKind.u64 a0 (32 : Int)))) (0 : UInt8))) : Int)))), ()))
  else none)
  else bif (decide (a0 ≥ (65536 : Int))) then
  (bif (decide ((Vx.shrI Go.IntKind.u64 a0 (16 : Int)) ≥ (256 : Int))) then
  (bif ((decide ((0 : Int) ≤ (Go.IntKind.wrap Go.IntKind.u8 (Vx.shrI Go.IntKind.u64 (Vx.shrI Go.IntKind.u64 a0 (16 : Int)) (8 : Int))))) && (decide ((Go.IntKind.wrap Go.IntKind.u8 (Vx.shrI Go.IntKind.u64 (Vx.shrI Go.IntKind.u64 a0 (16 : Int)) (8 : Int))) < (256 : Int)))) then
  (some ((Go.IntKind.wrap Go.IntKind.i64 ((Go.IntKind.wrap Go.IntKind.i64 ((Go.IntKind.wrap Go.IntKind.i64 ((0 : Int) + (16 : Int))) + (8 : Int))) + (Go.IntKind.wrap Go.IntKind.i64 ((UInt8.toNat (Vx.k_len8.getD (Int.toNat (Go.IntKind.wrap Go.IntKind.u8 (Vx.shrI Go.IntKind.u64 (Vx.shrI Go.IntKind.u64 a0 (16 : Int)) (8 : Int)))) (0 : UInt8))) : Int)))), ()))
  else none)
  else bif ((decide ((0 : Int) ≤ (Go.IntKind.wrap Go.IntKind.u8 (Vx.shrI Go.IntKind.u64 a0 (16 : Int))))) && (decide ((Go.IntKind.wrap Go.IntKind.u8 (Vx.shrI Go.IntKind.u64 a0 (16 : Int))) < (256 : Int)))) then
  (some ((Go.IntKind.wrap Go.IntKind.i64 ((Go.IntKind.wrap Go.IntKind.i64 ((0 : Int) + (16 : Int))) + (Go.IntKind.wrap Go.IntKind.i64 ((UInt8.toNat (Vx.k_len8.getD (Int.toNat (Go.IntKind.wrap Go.IntKind.u8 (Vx.shrI Go.IntKind.u64 a0 (16 : Int)))) (0 : UInt8))) : Int)))), ()))
  else none)
  else bif (decide (a0 ≥ (256 : Int))) then
  (bif ((decide ((0 : Int) ≤ (Go.IntKind.wrap Go.IntKind.u8 (Vx.shrI Go.IntKind.u64 a0 (8 : Int))))) && (decide ((Go.IntKind.wrap Go.IntKind.u8 (Vx.shrI Go.IntKind.u64 a0 (8 : Int))) < (256 : Int)))) then
  (some ((Go.IntKind.wrap Go.IntKind.i64 ((Go.IntKind.wrap Go.IntKind.i64 ((0 : Int) + (8 : Int))) + (Go.IntKind.wrap Go.IntKind.i64 ((UInt8.toNat (Vx.k_len8.getD (Int.toNat (Go.IntKind.wrap Go.IntKind.u8 (Vx.shrI Go.IntKind.u64 a0 (8 : Int)))) (0 : UInt8))) : Int)))), ()))
  else none)
  else bif ((decide ((0 : Int) ≤ (Go.IntKind.wrap Go.IntKind.u8 a0))) && (decide ((Go.IntKind.wrap Go.IntKind.u8 a0) < (256 : Int)))) then
  (some ((Go.IntKind.wrap Go.IntKind.i64 ((0 : Int) + (Go.IntKind.wrap Go.IntKind.i64 ((UInt8.toNat (Vx.k_len8.getD (Int.toNat (Go.IntKind.wrap Go.IntKind.u8 a0)) (0 : UInt8))) : Int)))), ()))
  else none
theorem r103 (a0 : Den (.int .u64)) :
    run { P := Go.Proofs.Tryd.prog, sums := [], loops := [], globs := G1 } 9 103 Go.Proofs.Tryd.f103 I103 O103 (a0, ()) = t103 a0 := by kernel_rfl
noncomputable def T103 (x : DenS I103) : Option (DenS O103) := t103 x.1
noncomputable def C103 : Cfg := { P := Go.Proofs.Tryd.prog, sums := [], loops := [], globs := G1 }
noncomputable def S103 : Sum := sumOf I103 O103 T103 (DenS.dflt O103)
theorem S103_sound : Sound Go.Proofs.Tryd.prog G1 103 S103 :=
  fn_sound C103 9 103 Go.Proofs.Tryd.f103 mixedOk (by kernel_rfl) (by kernel_rfl) (by kernel_rfl) trivial trivial I103 O103 T103 _ fun x => r103 x.1
/-- vernier/nat.Len -/
abbrev I100 : Sig := [(false, .slice (.int .u64))]
abbrev O100 : Sig := [(false, .int .i64)]
noncomputable def t100 (p106 : DenS I106 → Bool) (f106 : DenS I106 → DenS O106) (p103 : DenS I103 → Bool) (f103 : DenS I103 → DenS O103) (a0 : Den (.slice (.int .u64))) : Option (DenS O100) :=
  bif (p106 (a0, ())) then
  (bif (((f106 (a0, ())).1.length : Int) == (0 : Int)) then
  (some ((0 : Int), ()))
  else bif ((decide ((0 : Int) ≤ (Go.IntKind.wrap Go.IntKind.i64 (((f106 (a0, ())).1.length : Int) - (1 : Int))))) && (decide ((Go.IntKind.wrap Go.IntKind.i64 (((f106 (a0, ())).1.length : Int) - (1 : Int))) < ((f106 (a0, ())).1.length : Int)))) then
  (bif (p103 (((f106 (a0, ())).1.getD (Int.toNat (Go.IntKind.wrap Go.IntKind.i64 (((f106 (a0, ())).1.length : Int) - (1 : Int)))) (0 : Int)), ())) then
  (some ((Go.IntKind.wrap Go.IntKind.i64 ((Go.IntKind.wrap Go.IntKind.i64 ((64 : Int) * (Go.IntKind.wrap Go.IntKind.i64 (((f106 (a0, ())).1.length : Int) - (1 : Int))))) + (f103 (((f106 (a0, ())).1.getD (Int.toNat (Go.IntKind.wrap Go.IntKind.i64 (((f106 (a0, ())).1.length : Int) - (1 : Int)))) (0 : Int)), ())).1)), ()))
  else none)
  else none)
  else none
theorem r100 (p106 : DenS I106 → Bool) (f106 : DenS I106 → DenS O106) (p103 : DenS I103 → Bool) (f103 : DenS I103 → DenS O103) (a0 : Den (.slice (.int .u64))) :
    run { P := Go.Proofs.Tryd.prog, sums := [(106, ⟨I106, O106, p106, f106⟩), (103, ⟨I103, O103, p103, f103⟩)], loops := [], globs := G1 } 9 100 Go.Proofs.Tryd.f100 I100 O100 (a0, ()) = t100 p106 f106 p103 f103 a0 := by kernel_rfl
noncomputable def T100 (x : DenS I100) : Option (DenS O100) := t100 S106.pre S106.F S103.pre S103.F x.1
noncomputable def C100 : Cfg := { P := Go.Proofs.Tryd.prog, sums := [(106, S106), (103, S103)], loops := [], globs := G1 }
noncomputable def S100 : Sum := sumOf I100 O100 T100 (DenS.dflt O100)
theorem S100_sound : Sound Go.Proofs.Tryd.prog G1 100 S100 :=
  fn_sound C100 9 100 Go.Proofs.Tryd.f100 mixedOk (by kernel_rfl) (by kernel_rfl) (by kernel_rfl) ⟨S106_sound, ⟨S103_sound, trivial⟩⟩ trivial I100 O100 T100 _ fun x => r100 S106.pre S106.F S103.pre S103.F x.1
/-- vernier/round.zero -/
abbrev I101 : Sig := [(false, .int .i64), (false, .bool)]
abbrev O101 : Sig := [(false, .int .u64), (false, .int .i64), (false, .int .i64)]
noncomputable def t101 (p33 : DenS I33 → Bool) (f33 : DenS I33 → DenS O33) (a0 : Den (.int .i64)) (a1 : Den (.bool)) : Option (DenS O101) :=
  bif (p33 (a0, (a1, ()))) then
  (some ((f33 (a0, (a1, ()))).1, ((0 : Int), (f33 (a0, (a1, ()))).2)))
  else none
theorem r101 (p33 : DenS I33 → Bool) (f33 : DenS I33 → DenS O33) (a0 : Den (.int .i64)) (a1 : Den (.bool)) :
    run { P := Go.Proofs.Tryd.prog, sums := [(33, ⟨I33, O33, p33, f33⟩)], loops := [], globs := G1 } 9 101 Go.Proofs.Tryd.f101 I101 O101 (a0, a1, ()) = t101 p33 f33 a0 a1 := by kernel_rfl
noncomputable def T101 (x : DenS I101) : Option (DenS O101) := t101 S33.pre S33.F x.1 x.2.1
noncomputable def C101 : Cfg := { P := Go.Proofs.Tryd.prog, sums := [(33, S33)], loops := [], globs := G1 }
noncomputable def S101 : Sum := sumOf I101 O101 T101 (DenS.dflt O101)
theorem S101_sound : Sound Go.Proofs.Tryd.prog G1 101 S101 :=
  fn_sound C101 9 101 Go.Proofs.Tryd.f101 mixedOk (by kernel_rfl) (by kernel_rfl) (by kernel_rfl) ⟨S33_sound, trivial⟩ trivial I101 O101 T101 _ fun x => r101 S33.pre S33.F x.1 x.2.1
/-- (vernier/round.number).top -/
abbrev I118 : Sig := [(true, .pair (.bool) (.pair (.slice (.int .u64)) (.pair (.int .i64) (.pair (.bool) (.unit)))))]
abbrev O118 : Sig := [(false, .int .i64)]
noncomputable def t118 (p100 : DenS I100 → Bool) (f100 : DenS I100 → DenS O100) (a0 : Den (.pair (.bool) (.pair (.slice (.int .u64)) (.pair (.int .i64) (.pair (.bool) (.unit)))))) : Option (DenS O118) :=
  bif (p100 (a0.2.1, ())) then
  (some ((Go.IntKind.wrap Go.IntKind.i64 ((Go.IntKind.wrap Go.IntKind.i64 (a0.2.2.1 + (f100 (a0.2.1, ())).1)) - (1 : Int))), ()))
  else none
theorem r118 (p100 : DenS I100 → Bool) (f100 : DenS I100 → DenS O100) (a0 : Den (.pair (.bool) (.pair (.slice (.int .u64)) (.pair (.int .i64) (.pair (.bool) (.unit)))))) :
    run { P := Go.Proofs.Tryd.prog, sums := [(100, ⟨I100, O100, p100, f100⟩)], loops := [], globs := G1 } 9 118 Go.Proofs.Tryd.f118 I118 O118 (a0, ()) = t118 p100 f100 a0 := by kernel_rfl
noncomputable def T118 (x : DenS I118) : Option (DenS O118) := t118 S100.pre S100.F x.1
noncomputable def C118 : Cfg := { P := Go.Proofs.Tryd.prog, sums := [(100, S100)], loops := [], globs := G1 }
noncomputable def S118 : Sum := sumOf I118 O118 T118 (DenS.dflt O118)
theorem S118_sound : Sound Go.Proofs.Tryd.prog G1 118 S118 :=
  fn_sound C118 9 118 Go.Proofs.Tryd.f118 mixedOk (by kernel_rfl) (by kernel_rfl) (by kernel_rfl) ⟨S100_sound, trivial⟩ trivial I118 O118 T118 _ fun x => r118 S100.pre S100.F x.1
/-- vernier/nat.trim -/
abbrev I1106 : Sig := [(true, .slice (.int .u64))]
abbrev O1106 : Sig := [(true, .slice (.int .u64))]
abbrev P1106_2 : Pat := ⟨21, [(0, .one (.own 0)), (3, .one (.v .i64))], [.arr (.int .u64)]⟩
abbrev A1106_2 : List (Nat × Shape) := []
abbrev X1106_2 : List (Nat × Pat) := [(0, ⟨21, [(0, .one (.own 0)), (3, .one (.v .i64))], [.arr (.int .u64)]⟩)]
abbrev Q1106_2 : Option Pat := none
noncomputable def h1106_2 {R : Type} (L : Pat.D P1106_2 → Option R) (e : OutT X1106_2 Q1106_2 → Option R) (x : Pat.D P1106_2) : Option R :=
  bif (((decide ((0 : Int) ≤ (Go.IntKind.wrap Go.IntKind.i64 (x.1.2.1 - (1 : Int))))) && (decide ((Go.IntKind.wrap Go.IntKind.i64 (x.1.2.1 - (1 : Int))) < (x.2.1.length : Int)))) || (!(decide (x.1.2.1 > (0 : Int))))) then
  (bif ((decide (x.1.2.1 > (0 : Int))) && ((x.2.1.getD (Int.toNat (Go.IntKind.wrap Go.IntKind.i64 (x.1.2.1 - (1 : Int)))) (0 : Int)) == (0 : Int))) then
  ((L (((), ((Go.IntKind.wrap Go.IntKind.i64 (x.1.2.1 - (1 : Int))), ())), x.2)))
  else (e (.inl (((), x.1.2), x.2))))
  else none
theorem s1106_2 (w1106_2 : Pat.D P1106_2 → Option (OutT X1106_2 Q1106_2)) (d : Nat) (R : Type) (L : Pat.D P1106_2 → Option R) (e : OutT X1106_2 Q1106_2 → Option R) (x : Pat.D P1106_2) :
    lStep { P := Go.Proofs.Tryd.prog, sums := [], loops := [(106, 2, LoopSpec.of P1106_2 A1106_2 X1106_2 Q1106_2 w1106_2)], globs := G1, keep := true } (d + 2) 106 (bodyOf Go.Proofs.Tryd.f106 2) P1106_2 A1106_2 X1106_2 Q1106_2 (R := R) L e x = h1106_2 L e x := by kernel_rfl
theorem m1106_2 : Par fun L e x => h1106_2 L e x := by
  intro A B rel L L' e e' h0 hL he x
  unfold h1106_2
  repeat' (first | exact h0 | exact hL _ | exact he _ | apply rel_cond | (apply rel_obind h0; intro _) | (apply rel_obind2 <;> intro _))
noncomputable def t1106 (w1106_2 : Pat.D P1106_2 → Option (OutT X1106_2 Q1106_2)) (a0 : Den (.slice (.int .u64))) : Option (DenS O1106) :=
  Vx.obind (w1106_2 (((), ((a0.length : Int), ())), (a0, ()))) fun y0 =>
  Vx.obind2 y0 (fun y1 =>
  bif ((decide ((0 : Int) ≤ y1.1.2.1)) && (decide (y1.1.2.1 ≤ (y1.2.1.length : Int)))) then
  (some ((y1.2.1.take (Int.toNat y1.1.2.1)), ()))
  else none) (fun z1 =>
  none)
theorem r1106 (w1106_2 : Pat.D P1106_2 → Option (OutT X1106_2 Q1106_2)) (a0 : Den (.slice (.int .u64))) :
    run { P := Go.Proofs.Tryd.prog, sums := [], loops := [(106, 2, LoopSpec.of P1106_2 A1106_2 X1106_2 Q1106_2 w1106_2)], globs := G1, keep := true } 9 106 Go.Proofs.Tryd.f106 I1106 O1106 (a0, ()) = t1106 w1106_2 a0 := by kernel_rfl
noncomputable def W1106_2 : P1106_2.D → Option (OutT X1106_2 Q1106_2) := lfix fun L => h1106_2 L some
noncomputable def T1106 (x : DenS I1106) : Option (DenS O1106) := t1106 W1106_2 x.1
noncomputable def C1106 : Cfg := { P := Go.Proofs.Tryd.prog, sums := [], loops := [(106, 2, LoopSpec.of P1106_2 A1106_2 X1106_2 Q1106_2 W1106_2)], globs := G1, keep := true }
noncomputable def S1106 : Sum := sumOf I1106 O1106 T1106 (DenS.dflt O1106)
theorem S1106_sound : Sound Go.Proofs.Tryd.prog G1 106 S1106 :=
  fn_sound C1106 9 106 Go.Proofs.Tryd.f106 mixedOk (by kernel_rfl) (by kernel_rfl) (by kernel_rfl) trivial ⟨rfl, fun d => loopOk_of (fun L e x => h1106_2 L e x) (m1106_2) (fun R L e x => s1106_2 W1106_2 d R L e x), trivial⟩ I1106 O1106 T1106 _ fun x => r1106 W1106_2 x.1
/-- vernier/nat.right -/
abbrev I1108 : Sig := [(false, .slice (.int .u64)), (false, .int .i64)]
abbrev O1108 : Sig := [(true, .slice (.int .u64))]
abbrev P1108_7 : Pat := ⟨66, [(25, .one (.v .i64)), (0, .one (.sl (.int .u64))), (5, .one (.v .i64)), (6, .one (.v .i64)), (26, .one (.v .i64)), (7, .one (.own 0))], [.arr (.int .u64)]⟩
abbrev A1108_7 : List (Nat × Shape) := []
abbrev X1108_7 : List (Nat × Pat) := [(0, ⟨66, [(7, .one (.own 0))], [.arr (.int .u64)]⟩)]
abbrev Q1108_7 : Option Pat := none
noncomputable def h1108_7 (p1106 : DenS I1106 → Bool) (f1106 : DenS I1106 → DenS O1106) (p106 : DenS I106 → Bool) (f106 : DenS I106 → DenS O106) {R : Type} (L : Pat.D P1108_7 → Option R) (e : OutT X1108_7 Q1108_7 → Option R) (x : Pat.D P1108_7) : Option R :=
  bif (decide (x.1.2.2.2.2.1 < x.1.1)) then
  (bif ((decide ((0 : Int) ≤ (Go.IntKind.wrap Go.IntKind.i64 (x.1.2.2.1 + x.1.2.2.2.2.1)))) && (decide ((Go.IntKind.wrap Go.IntKind.i64 (x.1.2.2.1 + x.1.2.2.2.2.1)) < (x.1.2.1.length : Int)))) then
  (bif (decide ((0 : Int) ≤ x.1.2.2.2.1)) then
  (bif ((decide ((0 : Int) ≤ x.1.2.2.2.2.1)) && (decide (x.1.2.2.2.2.1 < (x.2.1.length : Int)))) then
  (bif (decide ((Go.IntKind.wrap Go.IntKind.i64 ((Go.IntKind.wrap Go.IntKind.i64 (x.1.2.2.1 + x.1.2.2.2.2.1)) + (1 : Int))) < (x.1.2.1.length : Int))) then
  (bif ((decide ((0 : Int) ≤ x.1.2.2.2.2.1)) && (decide (x.1.2.2.2.2.1 < ((x.2.1.set (Int.toNat x.1.2.2.2.2.1) (Vx.shrI Go.IntKind.u64 (x.1.2.1.getD (Int.toNat (Go.IntKind.wrap Go.IntKind.i64 (x.1.2.2.1 + x.1.2.2.2.2.1))) (0 : Int)) x.1.2.2.2.1)).length : Int)))) then
  (bif ((decide ((0 : Int) ≤ (Go.IntKind.wrap Go.IntKind.i64 ((Go.IntKind.wrap Go.IntKind.i64 (x.1.2.2.1 + x.1.2.2.2.2.1)) + (1 : Int))))) && (decide ((Go.IntKind.wrap Go.IntKind.i64 ((Go.IntKind.wrap Go.IntKind.i64 (x.1.2.2.1 + x.1.2.2.2.2.1)) + (1 : Int))) < (x.1.2.1.length : Int)))) then
  (bif (decide ((0 : Int) ≤ (Go.IntKind.wrap Go.IntKind.i64 ((64 : Int) - x.1.2.2.2.1)))) then
  (bif ((decide ((0 : Int) ≤ x.1.2.2.2.2.1)) && (decide (x.1.2.2.2.2.1 < ((x.2.1.set (Int.toNat x.1.2.2.2.2.1) (Vx.shrI Go.IntKind.u64 (x.1.2.1.getD (Int.toNat (Go.IntKind.wrap Go.IntKind.i64 (x.1.2.2.1 + x.1.2.2.2.2.1))) (0 : Int)) x.1.2.2.2.1)).length : Int)))) then
  ((L ((x.1.1, (x.1.2.1, (x.1.2.2.1, (x.1.2.2.2.1, ((Go.IntKind.wrap Go.IntKind.i64 (x.1.2.2.2.2.1 + (1 : Int))), ((), ())))))), (((x.2.1.set (Int.toNat x.1.2.2.2.2.1) (Vx.shrI Go.IntKind.u64 (x.1.2.1.getD (Int.toNat (Go.IntKind.wrap Go.IntKind.i64 (x.1.2.2.1 + x.1.2.2.2.2.1))) (0 : Int)) x.1.2.2.2.1)).set (Int.toNat x.1.2.2.2.2.1) (Vx.orI Go.IntKind.u64 ((x.2.1.set (Int.toNat x.1.2.2.2.2.1) (Vx.shrI Go.IntKind.u64 (x.1.2.1.getD (Int.toNat (Go.IntKind.wrap Go.IntKind.i64 (x.1.2.2.1 + x.1.2.2.2.2.1))) (0 : Int)) x.1.2.2.2.1)).getD (Int.toNat x.1.2.2.2.2.1) (0 : Int)) (Vx.shlI Go.IntKind.u64 (x.1.2.1.getD (Int.toNat (Go.IntKind.wrap Go.IntKind.i64 ((Go.IntKind.wrap Go.IntKind.i64 (x.1.2.2.1 + x.1.2.2.2.2.1)) + (1 : Int)))) (0 : Int)) (Go.IntKind.wrap Go.IntKind.i64 ((64 : Int) - x.1.2.2.2.1))))), ()))))
  else none)
  else none)
  else none)
  else none)
  else (L ((x.1.1, (x.1.2.1, (x.1.2.2.1, (x.1.2.2.2.1, ((Go.IntKind.wrap Go.IntKind.i64 (x.1.2.2.2.2.1 + (1 : Int))), ((), ())))))), ((x.2.1.set (Int.toNat x.1.2.2.2.2.1) (Vx.shrI Go.IntKind.u64 (x.1.2.1.getD (Int.toNat (Go.IntKind.wrap Go.IntKind.i64 (x.1.2.2.1 + x.1.2.2.2.2.1))) (0 : Int)) x.1.2.2.2.1)), ()))))
  else none)
  else none)
  else none)
  else (e (.inl (((), ()), x.2)))
theorem s1108_7 (p1106 : DenS I1106 → Bool) (f1106 : DenS I1106 → DenS O1106) (p106 : DenS I106 → Bool) (f106 : DenS I106 → DenS O106) (w1108_7 : Pat.D P1108_7 → Option (OutT X1108_7 Q1108_7)) (d : Nat) (R : Type) (L : Pat.D P1108_7 → Option R) (e : OutT X1108_7 Q1108_7 → Option R) (x : Pat.D P1108_7) :
    lStep { P := Go.Proofs.Tryd.prog, sums := [(106, ⟨I1106, O1106, p1106, f1106⟩), (106, ⟨I106, O106, p106, f106⟩)], loops := [(108, 7, LoopSpec.of P1108_7 A1108_7 X1108_7 Q1108_7 w1108_7)], globs := G1, keep := true } (d + 2) 108 (bodyOf Go.Proofs.Tryd.f108 7) P1108_7 A1108_7 X1108_7 Q1108_7 (R := R) L e x = h1108_7 p1106 f1106 p106 f106 L e x := by kernel_rfl
theorem m1108_7 (p1106 : DenS I1106 → Bool) (f1106 : DenS I1106 → DenS O1106) (p106 : DenS I106 → Bool) (f106 : DenS I106 → DenS O106) : Par fun L e x => h1108_7 p1106 f1106 p106 f106 L e x := by
  intro A B rel L L' e e' h0 hL he x
  unfold h1108_7
  repeat' (first | exact h0 | exact hL _ | exact he _ | apply rel_cond | (apply rel_obind h0; intro _) | (apply rel_obind2 <;> intro _))
noncomputable def t1108 (p1106 : DenS I1106 → Bool) (f1106 : DenS I1106 → DenS O1106) (p106 : DenS I106 → Bool) (f106 : DenS I106 → DenS O106) (w1108_7 : Pat.D P1108_7 → Option (OutT X1108_7 Q1108_7)) (a0 : Den (.slice (.int .u64))) (a1 : Den (.int .i64)) : Option (DenS O1108) :=
  bif (p106 (a0, ())) then
  (bif (decide ((Vx.quoI Go.IntKind.i64 a1 (64 : Int)) ≥ ((f106 (a0, ())).1.length : Int))) then
  (some ([], ()))
  else bif ((decide ((0 : Int) ≤ (Go.IntKind.wrap Go.IntKind.i64 (((f106 (a0, ())).1.length : Int) - (Vx.quoI Go.IntKind.i64 a1 (64 : Int)))))) && (decide (((Go.IntKind.wrap Go.IntKind.i64 (((f106 (a0, ())).1.length : Int) - (Vx.quoI Go.IntKind.i64 a1 (64 : Int)))) * (8 : Int)) ≤ (140737488355328 : Int)))) then
  (Vx.obind (w1108_7 ((((List.replicate (Int.toNat (Go.IntKind.wrap Go.IntKind.i64 (((f106 (a0, ())).1.length : Int) - (Vx.quoI Go.IntKind.i64 a1 (64 : Int))))) (0 : Int)).length : Int), ((f106 (a0, ())).1, ((Vx.quoI Go.IntKind.i64 a1 (64 : Int)), ((Int.tmod a1 (64 : Int)), ((0 : Int), ((), ())))))), ((List.replicate (Int.toNat (Go.IntKind.wrap Go.IntKind.i64 (((f106 (a0, ())).1.length : Int) - (Vx.quoI Go.IntKind.i64 a1 (64 : Int))))) (0 : Int)), ()))) fun y3 =>
  Vx.obind2 y3 (fun y4 =>
  bif (p1106 y4.2) then
  (some (f1106 y4.2))
  else none) (fun z4 =>
  none))
  else none)
  else none
theorem r1108 (p1106 : DenS I1106 → Bool) (f1106 : DenS I1106 → DenS O1106) (p106 : DenS I106 → Bool) (f106 : DenS I106 → DenS O106) (w1108_7 : Pat.D P1108_7 → Option (OutT X1108_7 Q1108_7)) (a0 : Den (.slice (.int .u64))) (a1 : Den (.int .i64)) :
    run { P := Go.Proofs.Tryd.prog, sums := [(106, ⟨I1106, O1106, p1106, f1106⟩), (106, ⟨I106, O106, p106, f106⟩)], loops := [(108, 7, LoopSpec.of P1108_7 A1108_7 X1108_7 Q1108_7 w1108_7)], globs := G1, keep := true } 9 108 Go.Proofs.Tryd.f108 I1108 O1108 (a0, a1, ()) = t1108 p1106 f1106 p106 f106 w1108_7 a0 a1 := by kernel_rfl
noncomputable def W1108_7 : P1108_7.D → Option (OutT X1108_7 Q1108_7) := lfix fun L => h1108_7 S1106.pre S1106.F S106.pre S106.F L some
noncomputable def T1108 (x : DenS I1108) : Option (DenS O1108) := t1108 S1106.pre S1106.F S106.pre S106.F W1108_7 x.1 x.2.1
noncomputable def C1108 : Cfg := { P := Go.Proofs.Tryd.prog, sums := [(106, S1106), (106, S106)], loops := [(108, 7, LoopSpec.of P1108_7 A1108_7 X1108_7 Q1108_7 W1108_7)], globs := G1, keep := true }
noncomputable def S1108 : Sum := sumOf I1108 O1108 T1108 (DenS.dflt O1108)
theorem S1108_sound : Sound Go.Proofs.Tryd.prog G1 108 S1108 :=
  fn_sound C1108 9 108 Go.Proofs.Tryd.f108 mixedOk (by kernel_rfl) (by kernel_rfl) (by kernel_rfl) ⟨S1106_sound, ⟨S106_sound, trivial⟩⟩ ⟨rfl, fun d => loopOk_of (fun L e x => h1108_7 S1106.pre S1106.F S106.pre S106.F L e x) (m1108_7 S1106.pre S1106.F S106.pre S106.F) (fun R L e x => s1108_7 S1106.pre S1106.F S106.pre S106.F W1108_7 d R L e x), trivial⟩ I1108 O1108 T1108 _ fun x => r1108 S1106.pre S1106.F S106.pre S106.F W1108_7 x.1 x.2.1
/-- vernier/nat.right -/
abbrev I108 : Sig := [(false, .slice (.int .u64)), (false, .int .i64)]
abbrev O108 : Sig := [(false, .slice (.int .u64))]
abbrev P108_7 : Pat := ⟨66, [(25, .one (.v .i64)), (0, .one (.sl (.int .u64))), (5, .one (.v .i64)), (6, .one (.v .i64)), (26, .one (.v .i64)), (7, .one (.own 0))], [.arr (.int .u64)]⟩
abbrev A108_7 : List (Nat × Shape) := []
abbrev X108_7 : List (Nat × Pat) := [(0, ⟨66, [(7, .one (.own 0))], [.arr (.int .u64)]⟩)]
abbrev Q108_7 : Option Pat := none
noncomputable def h108_7 (p106 : DenS I106 → Bool) (f106 : DenS I106 → DenS O106) {R : Type} (L : Pat.D P108_7 → Option R) (e : OutT X108_7 Q108_7 → Option R) (x : Pat.D P108_7) : Option R :=
  bif (decide (x.1.2.2.2.2.1 < x.1.1)) then
  (bif ((decide ((0 : Int) ≤ (Go.IntKind.wrap Go.IntKind.i64 (x.1.2.2.1 + x.1.2.2.2.2.1)))) && (decide ((Go.IntKind.wrap Go.IntKind.i64 (x.1.2.2.1 + x.1.2.2.2.2.1)) < (x.1.2.1.length : Int)))) then
  (bif (decide ((0 : Int) ≤ x.1.2.2.2.1)) then
  (bif ((decide ((0 : Int) ≤ x.1.2.2.2.2.1)) && (decide (x.1.2.2.2.2.1 < (x.2.1.length : Int)))) then
  (bif (decide ((Go.IntKind.wrap Go.IntKind.i64 ((Go.IntKind.wrap Go.IntKind.i64 (x.1.2.2.1 + x.1.2.2.2.2.1)) + (1 : Int))) < (x.1.2.1.length : Int))) then
  (bif ((decide ((0 : Int) ≤ x.1.2.2.2.2.1)) && (decide (x.1.2.2.2.2.1 < ((x.2.1.set (Int.toNat x.1.2.2.2.2.1) (Vx.shrI Go.IntKind.u64 (x.1.2.1.getD (Int.toNat (Go.IntKind.wrap Go.IntKind.i64 (x.1.2.2.1 + x.1.2.2.2.2.1))) (0 : Int)) x.1.2.2.2.1)).length : Int)))) then
  (bif ((decide ((0 : Int) ≤ (Go.IntKind.wrap Go.IntKind.i64 ((Go.IntKind.wrap Go.IntKind.i64 (x.1.2.2.1 + x.1.2.2.2.2.1)) + (1 : Int))))) && (decide ((Go.IntKind.wrap Go.IntKind.i64 ((Go.IntKind.wrap Go.IntKind.i64 (x.1.2.2.1 + x.1.2.2.2.2.1)) + (1 : Int))) < (x.1.2.1.length : Int)))) then
  (bif (decide ((0 : Int) ≤ (Go.IntKind.wrap Go.IntKind.i64 ((64 : Int) - x.1.2.2.2.1)))) then
  (bif ((decide ((0 : Int) ≤ x.1.2.2.2.2.1)) && (decide (x.1.2.2.2.2.1 < ((x.2.1.set (Int.toNat x.1.2.2.2.2.1) (Vx.shrI Go.IntKind.u64 (x.1.2.1.getD (Int.toNat (Go.IntKind.wrap Go.IntKind.i64 (x.1.2.2.1 + x.1.2.2.2.2.1))) (0 : Int)) x.1.2.2.2.1)).length : Int)))) then
  ((L ((x.1.1, (x.1.2.1, (x.1.2.2.1, (x.1.2.2.2.1, ((Go.IntKind.wrap Go.IntKind.i64 (x.1.2.2.2.2.1 + (1 : Int))), ((), ())))))), (((x.2.1.set (Int.toNat x.1.2.2.2.2.1) (Vx.shrI Go.IntKind.u64 (x.1.2.1.getD (Int.toNat (Go.IntKind.wrap Go.IntKind.i64 (x.1.2.2.1 + x.1.2.2.2.2.1))) (0 : Int)) x.1.2.2.2.1)).set (Int.toNat x.1.2.2.2.2.1) (Vx.orI Go.IntKind.u64 ((x.2.1.set (Int.toNat x.1.2.2.2.2.1) (Vx.shrI Go.IntKind.u64 (x.1.2.1.getD (Int.toNat (Go.IntKind.wrap Go.IntKind.i64 (x.1.2.2.1 + x.1.2.2.2.2.1))) (0 : Int)) x.1.2.2.2.1)).getD (Int.toNat x.1.2.2.2.2.1) (0 : Int)) (Vx.shlI Go.IntKind.u64 (x.1.2.1.getD (Int.toNat (Go.IntKind.wrap Go.IntKind.i64 ((Go.IntKind.wrap Go.IntKind.i64 (x.1.2.2.1 + x.1.2.2.2.2.1)) + (1 : Int)))) (0 : Int)) (Go.IntKind.wrap Go.IntKind.i64 ((64 : Int) - x.1.2.2.2.1))))), ()))))
  else none)
  else none)
  else none)
  else none)
  else (L ((x.1.1, (x.1.2.1, (x.1.2.2.1, (x.1.2.2.2.1, ((Go.IntKind.wrap Go.IntKind.i64 (x.1.2.2.2.2.1 + (1 : Int))), ((), ())))))), ((x.2.1.set (Int.toNat x.1.2.2.2.2.1) (Vx.shrI Go.IntKind.u64 (x.1.2.1.getD (Int.toNat (Go.IntKind.wrap Go.IntKind.i64 (x.1.2.2.1 + x.1.2.2.2.2.1))) (0 : Int)) x.1.2.2.2.1)), ()))))
  else none)
  else none)
  else none)
  else (e (.inl (((), ()), x.2)))
theorem s108_7 (p106 : DenS I106 → Bool) (f106 : DenS I106 → DenS O106) (w108_7 : Pat.D P108_7 → Option (OutT X108_7 Q108_7)) (d : Nat) (R : Type) (L : Pat.D P108_7 → Option R) (e : OutT X108_7 Q108_7 → Option R) (x : Pat.D P108_7) :
    lStep { P := Go.Proofs.Tryd.prog, sums := [(106, ⟨I106, O106, p106, f106⟩)], loops := [(108, 7, LoopSpec.of P108_7 A108_7 X108_7 Q108_7 w108_7)], globs := G1 } (d + 2) 108 (bodyOf Go.Proofs.Tryd.f108 7) P108_7 A108_7 X108_7 Q108_7 (R := R) L e x = h108_7 p106 f106 L e x := by kernel_rfl
theorem m108_7 (p106 : DenS I106 → Bool) (f106 : DenS I106 → DenS O106) : Par fun L e x => h108_7 p106 f106 L e x := by
  intro A B rel L L' e e' h0 hL he x
  unfold h108_7
  repeat' (first | exact h0 | exact hL _ | exact he _ | apply rel_cond | (apply rel_obind h0; intro _) | (apply rel_obind2 <;> intro _))
noncomputable def t108 (p106 : DenS I106 → Bool) (f106 : DenS I106 → DenS O106) (w108_7 : Pat.D P108_7 → Option (OutT X108_7 Q108_7)) (a0 : Den (.slice (.int .u64))) (a1 : Den (.int .i64)) : Option (DenS O108) :=
  bif (p106 (a0, ())) then
  (bif (decide ((Vx.quoI Go.IntKind.i64 a1 (64 : Int)) ≥ ((f106 (a0, ())).1.length : Int))) then
  (some ([], ()))
  else bif ((decide ((0 : Int) ≤ (Go.IntKind.wrap Go.IntKind.i64 (((f106 (a0, ())).1.length : Int) - (Vx.quoI Go.IntKind.i64 a1 (64 : Int)))))) && (decide (((Go.IntKind.wrap Go.IntKind.i64 (((f106 (a0, ())).1.length : Int) - (Vx.quoI Go.IntKind.i64 a1 (64 : Int)))) * (8 : Int)) ≤ (140737488355328 : Int)))) then
  (Vx.obind (w108_7 ((((List.replicate (Int.toNat (Go.IntKind.wrap Go.IntKind.i64 (((f106 (a0, ())).1.length : Int) - (Vx.quoI Go.IntKind.i64 a1 (64 : Int))))) (0 : Int)).length : Int), ((f106 (a0, ())).1, ((Vx.quoI Go.IntKind.i64 a1 (64 : Int)), ((Int.tmod a1 (64 : Int)), ((0 : Int), ((), ())))))), ((List.replicate (Int.toNat (Go.IntKind.wrap Go.IntKind.i64 (((f106 (a0, ())).1.length : Int) - (Vx.quoI Go.IntKind.i64 a1 (64 : Int))))) (0 : Int)), ()))) fun y3 =>
  Vx.obind2 y3 (fun y4 =>
  bif (p106 y4.2) then
  (some (f106 y4.2))
  else none) (fun z4 =>
  none))
  else none)
  else none
theorem r108 (p106 : DenS I106 → Bool) (f106 : DenS I106 → DenS O106) (w108_7 : Pat.D P108_7 → Option (OutT X108_7 Q108_7)) (a0 : Den (.slice (.int .u64))) (a1 : Den (.int .i64)) :
    run { P := Go.Proofs.Tryd.prog, sums := [(106, ⟨I106, O106, p106, f106⟩)], loops := [(108, 7, LoopSpec.of P108_7 A108_7 X108_7 Q108_7 w108_7)], globs := G1 } 9 108 Go.Proofs.Tryd.f108 I108 O108 (a0, a1, ()) = t108 p106 f106 w108_7 a0 a1 := by kernel_rfl
noncomputable def W108_7 : P108_7.D → Option (OutT X108_7 Q108_7) := lfix fun L => h108_7 S106.pre S106.F L some
noncomputable def T108 (x : DenS I108) : Option (DenS O108) := t108 S106.pre S106.F W108_7 x.1 x.2.1
noncomputable def C108 : Cfg := { P := Go.Proofs.Tryd.prog, sums := [(106, S106)], loops := [(108, 7, LoopSpec.of P108_7 A108_7 X108_7 Q108_7 W108_7)], globs := G1 }
noncomputable def S108 : Sum := sumOf I108 O108 T108 (DenS.dflt O108)
theorem S108_sound : Sound Go.Proofs.Tryd.prog G1 108 S108 :=
  fn_sound C108 9 108 Go.Proofs.Tryd.f108 mixedOk (by kernel_rfl) (by kernel_rfl) (by kernel_rfl) ⟨S106_sound, trivial⟩ ⟨rfl, fun d => loopOk_of (fun L e x => h108_7 S106.pre S106.F L e x) (m108_7 S106.pre S106.F) (fun R L e x => s108_7 S106.pre S106.F W108_7 d R L e x), trivial⟩ I108 O108 T108 _ fun x => r108 S106.pre S106.F W108_7 x.1 x.2.1
/-- math/bits.TrailingZeros64 -/
abbrev I65 : Sig := [(false, .int .u64)]
abbrev O65 : Sig := [(false, .int .i64)]
noncomputable def t65 (a0 : Den (.int .u64)) : Option (DenS O65) :=
  bif (a0 == (0 : Int)) then
  (some ((64 : Int), ()))
  else bif (Vx.sealB ((decide ((0 : Int) ≤ (Vx.shrI Go.IntKind.u64 (Go.IntKind.wrap Go.IntKind.u64 ((Vx.andI Go.IntKind.u64 a0 (Go.IntKind.wrap Go.IntKind.u64 ((0 : Int) - a0))) * (285870213051353865 : Int))) (58 : Int)))) && (decide ((Vx.shrI Go.IntKind.u64 (Go.IntKind.wrap Go.IntKind.u64 ((Vx.andI Go.IntKind.u64 a0 (Go.IntKind.wrap Go.IntKind.u64 ((0 : Int) - a0))) * (285870213051353865 : Int))) (58 : Int)) < ((64 : Nat) : Int))))) then
  (some ((Go.IntKind.wrap Go.IntKind.i64 (Vx.k_deb.getD (Int.toNat (Vx.shrI Go.IntKind.u64 (Go.IntKind.wrap Go.IntKind.u64 ((Vx.andI Go.IntKind.u64 a0 (Go.IntKind.wrap Go.IntKind.u64 ((0 : Int) - a0))) * (285870213051353865 : Int))) (58 : Int))) (0 : Int))), ()))
  else none
theorem r65 (a0 : Den (.int .u64)) :
    run { P := Go.Proofs.Tryd.prog, sums := [], loops := [], globs := G1 } 9 65 Go.Proofs.Tryd.f65 I65 O65 (a0, ()) = t65 a0 := by kernel_rfl
noncomputable def T65 (x : DenS I65) : Option (DenS O65) := t65 x.1
noncomputable def C65 : Cfg := { P := Go.Proofs.Tryd.prog, sums := [], loops := [], globs := G1 }
noncomputable def S65 : Sum := sumOf I65 O65 T65 (DenS.dflt O65)
theorem S65_sound : Sound Go.Proofs.Tryd.prog G1 65 S65 :=
  fn_sound C65 9 65 Go.Proofs.Tryd.f65 mixedOk (by kernel_rfl) (by kernel_rfl) (by kernel_rfl) trivial trivial I65 O65 T65 _ fun x => r65 x.1
/-- vernier/nat.divides -/
abbrev I136 : Sig := [(false, .slice (.int .u64)), (false, .int .i64)]
abbrev O136 : Sig := [(false, .bool)]
abbrev P136_2 : Pat := ⟨25, [(9, .one (.v .i64)), (8, .one (.sl (.int .u64))), (1, .one (.v .i64)), (10, .one (.v .i64))], []⟩
abbrev A136_2 : List (Nat × Shape) := []
abbrev X136_2 : List (Nat × Pat) := [(0, ⟨25, [], []⟩)]
abbrev Q136_2 : Option Pat := (some ⟨25, [(4, .one (.bool))], []⟩)
noncomputable def h136_2 (p106 : DenS I106 → Bool) (f106 : DenS I106 → DenS O106) (p65 : DenS I65 → Bool) (f65 : DenS I65 → DenS O65) {R : Type} (L : Pat.D P136_2 → Option R) (e : OutT X136_2 Q136_2 → Option R) (x : Pat.D P136_2) : Option R :=
  bif (decide (x.1.2.2.2.1 < x.1.1)) then
  (bif ((decide ((0 : Int) ≤ x.1.2.2.2.1)) && (decide (x.1.2.2.2.1 < (x.1.2.1.length : Int)))) then
  (bif ((x.1.2.1.getD (Int.toNat x.1.2.2.2.1) (0 : Int)) != (0 : Int)) then
  (bif (p65 ((x.1.2.1.getD (Int.toNat x.1.2.2.2.1) (0 : Int)), ())) then
  ((e (.inr (((decide ((Go.IntKind.wrap Go.IntKind.i64 ((Go.IntKind.wrap Go.IntKind.i64 ((64 : Int) * x.1.2.2.2.1)) + (f65 ((x.1.2.1.getD (Int.toNat x.1.2.2.2.1) (0 : Int)), ())).1)) ≥ x.1.2.2.1)), ()), ()))))
  else none)
  else (L ((x.1.1, (x.1.2.1, (x.1.2.2.1, ((Go.IntKind.wrap Go.IntKind.i64 (x.1.2.2.2.1 + (1 : Int))), ())))), ())))
  else none)
  else (e (.inl ((), ())))
theorem s136_2 (p106 : DenS I106 → Bool) (f106 : DenS I106 → DenS O106) (p65 : DenS I65 → Bool) (f65 : DenS I65 → DenS O65) (w136_2 : Pat.D P136_2 → Option (OutT X136_2 Q136_2)) (d : Nat) (R : Type) (L : Pat.D P136_2 → Option R) (e : OutT X136_2 Q136_2 → Option R) (x : Pat.D P136_2) :
    lStep { P := Go.Proofs.Tryd.prog, sums := [(106, ⟨I106, O106, p106, f106⟩), (65, ⟨I65, O65, p65, f65⟩)], loops := [(136, 2, LoopSpec.of P136_2 A136_2 X136_2 Q136_2 w136_2)], globs := G1 } (d + 2) 136 (bodyOf Go.Proofs.Tryd.f136 2) P136_2 A136_2 X136_2 Q136_2 (R := R) L e x = h136_2 p106 f106 p65 f65 L e x := by kernel_rfl
theorem m136_2 (p106 : DenS I106 → Bool) (f106 : DenS I106 → DenS O106) (p65 : DenS I65 → Bool) (f65 : DenS I65 → DenS O65) : Par fun L e x => h136_2 p106 f106 p65 f65 L e x := by
  intro A B rel L L' e e' h0 hL he x
  unfold h136_2
  repeat' (first | exact h0 | exact hL _ | exact he _ | apply rel_cond | (apply rel_obind h0; intro _) | (apply rel_obind2 <;> intro _))
noncomputable def t136 (p106 : DenS I106 → Bool) (f106 : DenS I106 → DenS O106) (p65 : DenS I65 → Bool) (f65 : DenS I65 → DenS O65) (w136_2 : Pat.D P136_2 → Option (OutT X136_2 Q136_2)) (a0 : Den (.slice (.int .u64))) (a1 : Den (.int .i64)) : Option (DenS O136) :=
  bif (p106 (a0, ())) then
  (Vx.obind (w136_2 ((((f106 (a0, ())).1.length : Int), ((f106 (a0, ())).1, (a1, ((0 : Int), ())))), ())) fun y1 =>
  Vx.obind2 y1 (fun y2 =>
  some (true, ())) (fun z2 =>
  some z2.1))
  else none
theorem r136 (p106 : DenS I106 → Bool) (f106 : DenS I106 → DenS O106) (p65 : DenS I65 → Bool) (f65 : DenS I65 → DenS O65) (w136_2 : Pat.D P136_2 → Option (OutT X136_2 Q136_2)) (a0 : Den (.slice (.int .u64))) (a1 : Den (.int .i64)) :
    run { P := Go.Proofs.Tryd.prog, sums := [(106, ⟨I106, O106, p106, f106⟩), (65, ⟨I65, O65, p65, f65⟩)], loops := [(136, 2, LoopSpec.of P136_2 A136_2 X136_2 Q136_2 w136_2)], globs := G1 } 9 136 Go.Proofs.Tryd.f136 I136 O136 (a0, a1, ()) = t136 p106 f106 p65 f65 w136_2 a0 a1 := by kernel_rfl
noncomputable def W136_2 : P136_2.D → Option (OutT X136_2 Q136_2) := lfix fun L => h136_2 S106.pre S106.F S65.pre S65.F L some
noncomputable def T136 (x : DenS I136) : Option (DenS O136) := t136 S106.pre S106.F S65.pre S65.F W136_2 x.1 x.2.1
noncomputable def C136 : Cfg := { P := Go.Proofs.Tryd.prog, sums := [(106, S106), (65, S65)], loops := [(136, 2, LoopSpec.of P136_2 A136_2 X136_2 Q136_2 W136_2)], globs := G1 }
noncomputable def S136 : Sum := sumOf I136 O136 T136 (DenS.dflt O136)
theorem S136_sound : Sound Go.Proofs.Tryd.prog G1 136 S136 :=
  fn_sound C136 9 136 Go.Proofs.Tryd.f136 mixedOk (by kernel_rfl) (by kernel_rfl) (by kernel_rfl) ⟨S106_sound, ⟨S65_sound, trivial⟩⟩ ⟨rfl, fun d => loopOk_of (fun L e x => h136_2 S106.pre S106.F S65.pre S65.F L e x) (m136_2 S106.pre S106.F S65.pre S65.F) (fun R L e x => s136_2 S106.pre S106.F S65.pre S65.F W136_2 d R L e x), trivial⟩ I136 O136 T136 _ fun x => r136 S106.pre S106.F S65.pre S65.F W136_2 x.1 x.2.1
/-- vernier/nat.Jam -/
abbrev I129 : Sig := [(false, .slice (.int .u64)), (false, .int .i64)]
abbrev O129 : Sig := [(false, .slice (.int .u64)), (false, .int .i64)]
noncomputable def t129 (p1108 : DenS I1108 → Bool) (f1108 : DenS I1108 → DenS O1108) (p108 : DenS I108 → Bool) (f108 : DenS I108 → DenS O108) (p136 : DenS I136 → Bool) (f136 : DenS I136 → DenS O136) (a0 : Den (.slice (.int .u64))) (a1 : Den (.int .i64)) : Option (DenS O129) :=
  bif (decide (a1 < (0 : Int))) then
  (some ([], ((7 : Int), ())))
  else bif (p1108 (a0, (a1, ()))) then
  (bif (p136 (a0, (a1, ()))) then
  (bif (!(f136 (a0, (a1, ()))).1) then
  (bif (((f1108 (a0, (a1, ()))).1.length : Int) == (0 : Int)) then
  (some (((1 : Int) :: []), ((0 : Int), ())))
  else bif (decide ((0 : Int) < ((f1108 (a0, (a1, ()))).1.length : Int))) then
  (bif (decide ((0 : Int) < ((f1108 (a0, (a1, ()))).1.length : Int))) then
  (some (((f1108 (a0, (a1, ()))).1.set (Int.toNat (0 : Int)) (Vx.orI Go.IntKind.u64 ((f1108 (a0, (a1, ()))).1.getD (Int.toNat (0 : Int)) (0 : Int)) (1 : Int))), ((0 : Int), ())))
  else none)
  else none)
  else some ((f1108 (a0, (a1, ()))).1, ((0 : Int), ())))
  else none)
  else none
theorem r129 (p1108 : DenS I1108 → Bool) (f1108 : DenS I1108 → DenS O1108) (p108 : DenS I108 → Bool) (f108 : DenS I108 → DenS O108) (p136 : DenS I136 → Bool) (f136 : DenS I136 → DenS O136) (a0 : Den (.slice (.int .u64))) (a1 : Den (.int .i64)) :
    run { P := Go.Proofs.Tryd.prog, sums := [(108, ⟨I1108, O1108, p1108, f1108⟩), (108, ⟨I108, O108, p108, f108⟩), (136, ⟨I136, O136, p136, f136⟩)], loops := [], globs := G1 } 9 129 Go.Proofs.Tryd.f129 I129 O129 (a0, a1, ()) = t129 p1108 f1108 p108 f108 p136 f136 a0 a1 := by kernel_rfl
noncomputable def T129 (x : DenS I129) : Option (DenS O129) := t129 S1108.pre S1108.F S108.pre S108.F S136.pre S136.F x.1 x.2.1
noncomputable def C129 : Cfg := { P := Go.Proofs.Tryd.prog, sums := [(108, S1108), (108, S108), (136, S136)], loops := [], globs := G1 }
noncomputable def S129 : Sum := sumOf I129 O129 T129 (DenS.dflt O129)
theorem S129_sound : Sound Go.Proofs.Tryd.prog G1 129 S129 :=
  fn_sound C129 9 129 Go.Proofs.Tryd.f129 mixedOk (by kernel_rfl) (by kernel_rfl) (by kernel_rfl) ⟨S1108_sound, ⟨S108_sound, ⟨S136_sound, trivial⟩⟩⟩ trivial I129 O129 T129 _ fun x => r129 S1108.pre S1108.F S108.pre S108.F S136.pre S136.F x.1 x.2.1
/-- vernier/nat.left -/
abbrev I105 : Sig := [(false, .slice (.int .u64)), (false, .int .i64)]
abbrev O105 : Sig := [(false, .slice (.int .u64))]
abbrev P105_7 : Pat := ⟨56, [(26, .one (.v .i64)), (25, .one (.sl (.int .u64))), (5, .one (.v .i64)), (6, .one (.v .i64)), (27, .one (.v .i64)), (7, .one (.own 0))], [.arr (.int .u64)]⟩
abbrev A105_7 : List (Nat × Shape) := []
abbrev X105_7 : List (Nat × Pat) := [(0, ⟨56, [(7, .one (.own 0))], [.arr (.int .u64)]⟩)]
abbrev Q105_7 : Option Pat := none
noncomputable def h105_7 (p106 : DenS I106 → Bool) (f106 : DenS I106 → DenS O106) {R : Type} (L : Pat.D P105_7 → Option R) (e : OutT X105_7 Q105_7 → Option R) (x : Pat.D P105_7) : Option R :=
  bif (decide (x.1.2.2.2.2.1 < x.1.1)) then
  (bif ((decide ((0 : Int) ≤ x.1.2.2.2.2.1)) && (decide (x.1.2.2.2.2.1 < (x.1.2.1.length : Int)))) then
  (bif ((decide ((0 : Int) ≤ (Go.IntKind.wrap Go.IntKind.i64 (x.1.2.2.1 + x.1.2.2.2.2.1)))) && (decide ((Go.IntKind.wrap Go.IntKind.i64 (x.1.2.2.1 + x.1.2.2.2.2.1)) < (x.2.1.length : Int)))) then
  (bif (decide ((0 : Int) ≤ x.1.2.2.2.1)) then
  (bif ((decide ((0 : Int) ≤ (Go.IntKind.wrap Go.IntKind.i64 (x.1.2.2.1 + x.1.2.2.2.2.1)))) && (decide ((Go.IntKind.wrap Go.IntKind.i64 (x.1.2.2.1 + x.1.2.2.2.2.1)) < (x.2.1.length : Int)))) then
  (bif (decide ((0 : Int) ≤ (Go.IntKind.wrap Go.IntKind.i64 ((64 : Int) - x.1.2.2.2.1)))) then
  (bif ((decide ((0 : Int) ≤ (Go.IntKind.wrap Go.IntKind.i64 ((Go.IntKind.wrap Go.IntKind.i64 (x.1.2.2.1 + x.1.2.2.2.2.1)) + (1 : Int))))) && (decide ((Go.IntKind.wrap Go.IntKind.i64 ((Go.IntKind.wrap Go.IntKind.i64 (x.1.2.2.1 + x.1.2.2.2.2.1)) + (1 : Int))) < ((x.2.1.set (Int.toNat (Go.IntKind.wrap Go.IntKind.i64 (x.1.2.2.1 + x.1.2.2.2.2.1))) (Vx.orI Go.IntKind.u64 (x.2.1.getD (Int.toNat (Go.IntKind.wrap Go.IntKind.i64 (x.1.2.2.1 + x.1.2.2.2.2.1))) (0 : Int)) (Vx.shlI Go.IntKind.u64 (x.1.2.1.getD (Int.toNat x.1.2.2.2.2.1) (0 : Int)) x.1.2.2.2.1))).length : Int)))) then
  ((L ((x.1.1, (x.1.2.1, (x.1.2.2.1, (x.1.2.2.2.1, ((Go.IntKind.wrap Go.IntKind.i64 (x.1.2.2.2.2.1 + (1 : Int))), ((), ())))))), (((x.2.1.set (Int.toNat (Go.IntKind.wrap Go.IntKind.i64 (x.1.2.2.1 + x.1.2.2.2.2.1))) (Vx.orI Go.IntKind.u64 (x.2.1.getD (Int.toNat (Go.IntKind.wrap Go.IntKind.i64 (x.1.2.2.1 + x.1.2.2.2.2.1))) (0 : Int)) (Vx.shlI Go.IntKind.u64 (x.1.2.1.getD (Int.toNat x.1.2.2.2.2.1) (0 : Int)) x.1.2.2.2.1))).set (Int.toNat (Go.IntKind.wrap Go.IntKind.i64 ((Go.IntKind.wrap Go.IntKind.i64 (x.1.2.2.1 + x.1.2.2.2.2.1)) + (1 : Int)))) (Vx.shrI Go.IntKind.u64 (x.1.2.1.getD (Int.toNat x.1.2.2.2.2.1) (0 : Int)) (Go.IntKind.wrap Go.IntKind.i64 ((64 : Int) - x.1.2.2.2.1)))), ()))))
  else none)
  else none)
  else none)
  else none)
  else none)
  else none)
  else (e (.inl (((), ()), x.2)))
theorem s105_7 (p106 : DenS I106 → Bool) (f106 : DenS I106 → DenS O106) (w105_7 : Pat.D P105_7 → Option (OutT X105_7 Q105_7)) (d : Nat) (R : Type) (L : Pat.D P105_7 → Option R) (e : OutT X105_7 Q105_7 → Option R) (x : Pat.D P105_7) :
    lStep { P := Go.Proofs.Tryd.prog, sums := [(106, ⟨I106, O106, p106, f106⟩)], loops := [(105, 7, LoopSpec.of P105_7 A105_7 X105_7 Q105_7 w105_7)], globs := G1 } (d + 2) 105 (bodyOf Go.Proofs.Tryd.f105 7) P105_7 A105_7 X105_7 Q105_7 (R := R) L e x = h105_7 p106 f106 L e x := by kernel_rfl
theorem m105_7 (p106 : DenS I106 → Bool) (f106 : DenS I106 → DenS O106) : Par fun L e x => h105_7 p106 f106 L e x := by
  intro A B rel L L' e e' h0 hL he x
  unfold h105_7
  repeat' (first | exact h0 | exact hL _ | exact he _ | apply rel_cond | (apply rel_obind h0; intro _) | (apply rel_obind2 <;> intro _))
noncomputable def t105 (p106 : DenS I106 → Bool) (f106 : DenS I106 → DenS O106) (w105_7 : Pat.D P105_7 → Option (OutT X105_7 Q105_7)) (a0 : Den (.slice (.int .u64))) (a1 : Den (.int .i64)) : Option (DenS O105) :=
  bif (p106 (a0, ())) then
  (bif (((f106 (a0, ())).1.length : Int) == (0 : Int)) then
  (some ([], ()))
  else bif ((decide ((0 : Int) ≤ (Go.IntKind.wrap Go.IntKind.i64 ((Go.IntKind.wrap Go.IntKind.i64 ((Vx.quoI Go.IntKind.i64 a1 (64 : Int)) + ((f106 (a0, ())).1.length : Int))) + (1 : Int))))) && (decide (((Go.IntKind.wrap Go.IntKind.i64 ((Go.IntKind.wrap Go.IntKind.i64 ((Vx.quoI Go.IntKind.i64 a1 (64 : Int)) + ((f106 (a0, ())).1.length : Int))) + (1 : Int))) * (8 : Int)) ≤ (140737488355328 : Int)))) then
  (Vx.obind (w105_7 ((((f106 (a0, ())).1.length : Int), ((f106 (a0, ())).1, ((Vx.quoI Go.IntKind.i64 a1 (64 : Int)), ((Int.tmod a1 (64 : Int)), ((0 : Int), ((), ())))))), ((List.replicate (Int.toNat (Go.IntKind.wrap Go.IntKind.i64 ((Go.IntKind.wrap Go.IntKind.i64 ((Vx.quoI Go.IntKind.i64 a1 (64 : Int)) + ((f106 (a0, ())).1.length : Int))) + (1 : Int)))) (0 : Int)), ()))) fun y3 =>
  Vx.obind2 y3 (fun y4 =>
  bif (p106 y4.2) then
  (some (f106 y4.2))
  else none) (fun z4 =>
  none))
  else none)
  else none
theorem r105 (p106 : DenS I106 → Bool) (f106 : DenS I106 → DenS O106) (w105_7 : Pat.D P105_7 → Option (OutT X105_7 Q105_7)) (a0 : Den (.slice (.int .u64))) (a1 : Den (.int .i64)) :
    run { P := Go.Proofs.Tryd.prog, sums := [(106, ⟨I106, O106, p106, f106⟩)], loops := [(105, 7, LoopSpec.of P105_7 A105_7 X105_7 Q105_7 w105_7)], globs := G1 } 9 105 Go.Proofs.Tryd.f105 I105 O105 (a0, a1, ()) = t105 p106 f106 w105_7 a0 a1 := by kernel_rfl
noncomputable def W105_7 : P105_7.D → Option (OutT X105_7 Q105_7) := lfix fun L => h105_7 S106.pre S106.F L some
noncomputable def T105 (x : DenS I105) : Option (DenS O105) := t105 S106.pre S106.F W105_7 x.1 x.2.1
noncomputable def C105 : Cfg := { P := Go.Proofs.Tryd.prog, sums := [(106, S106)], loops := [(105, 7, LoopSpec.of P105_7 A105_7 X105_7 Q105_7 W105_7)], globs := G1 }
noncomputable def S105 : Sum := sumOf I105 O105 T105 (DenS.dflt O105)
theorem S105_sound : Sound Go.Proofs.Tryd.prog G1 105 S105 :=
  fn_sound C105 9 105 Go.Proofs.Tryd.f105 mixedOk (by kernel_rfl) (by kernel_rfl) (by kernel_rfl) ⟨S106_sound, trivial⟩ ⟨rfl, fun d => loopOk_of (fun L e x => h105_7 S106.pre S106.F L e x) (m105_7 S106.pre S106.F) (fun R L e x => s105_7 S106.pre S106.F W105_7 d R L e x), trivial⟩ I105 O105 T105 _ fun x => r105 S106.pre S106.F W105_7 x.1 x.2.1
/-- vernier/nat.great -/
abbrev I104 : Sig := [(false, .slice (.slice (.int .u64)))]
abbrev O104 : Sig := [(false, .bool)]
abbrev P104_2 : Pat := ⟨16, [(6, .one (.v .i64)), (5, .one (.sl (.slice (.int .u64)))), (7, .one (.v .i64))], []⟩
abbrev A104_2 : List (Nat × Shape) := []
abbrev X104_2 : List (Nat × Pat) := [(0, ⟨16, [], []⟩)]
abbrev Q104_2 : Option Pat := (some ⟨16, [(2, .one (.bool))], []⟩)
noncomputable def h104_2 (p106 : DenS I106 → Bool) (f106 : DenS I106 → DenS O106) {R : Type} (L : Pat.D P104_2 → Option R) (e : OutT X104_2 Q104_2 → Option R) (x : Pat.D P104_2) : Option R :=
  bif (decide (x.1.2.2.1 < x.1.1)) then
  (bif ((decide ((0 : Int) ≤ x.1.2.2.1)) && (decide (x.1.2.2.1 < (x.1.2.1.length : Int)))) then
  (bif (p106 ((x.1.2.1.getD (Int.toNat x.1.2.2.1) []), ())) then
  (bif (decide (((f106 ((x.1.2.1.getD (Int.toNat x.1.2.2.1) []), ())).1.length : Int) > (1024 : Int))) then
  ((e (.inr ((true, ()), ()))))
  else (L ((x.1.1, (x.1.2.1, ((Go.IntKind.wrap Go.IntKind.i64 (x.1.2.2.1 + (1 : Int))), ()))), ())))
  else none)
  else none)
  else (e (.inl ((), ())))
theorem s104_2 (p106 : DenS I106 → Bool) (f106 : DenS I106 → DenS O106) (w104_2 : Pat.D P104_2 → Option (OutT X104_2 Q104_2)) (d : Nat) (R : Type) (L : Pat.D P104_2 → Option R) (e : OutT X104_2 Q104_2 → Option R) (x : Pat.D P104_2) :
    lStep { P := Go.Proofs.Tryd.prog, sums := [(106, ⟨I106, O106, p106, f106⟩)], loops := [(104, 2, LoopSpec.of P104_2 A104_2 X104_2 Q104_2 w104_2)], globs := G1 } (d + 2) 104 (bodyOf Go.Proofs.Tryd.f104 2) P104_2 A104_2 X104_2 Q104_2 (R := R) L e x = h104_2 p106 f106 L e x := by kernel_rfl
theorem m104_2 (p106 : DenS I106 → Bool) (f106 : DenS I106 → DenS O106) : Par fun L e x => h104_2 p106 f106 L e x := by
  intro A B rel L L' e e' h0 hL he x
  unfold h104_2
  repeat' (first | exact h0 | exact hL _ | exact he _ | apply rel_cond | (apply rel_obind h0; intro _) | (apply rel_obind2 <;> intro _))
noncomputable def t104 (p106 : DenS I106 → Bool) (f106 : DenS I106 → DenS O106) (w104_2 : Pat.D P104_2 → Option (OutT X104_2 Q104_2)) (a0 : Den (.slice (.slice (.int .u64)))) : Option (DenS O104) :=
  Vx.obind (w104_2 (((a0.length : Int), (a0, ((0 : Int), ()))), ())) fun y0 =>
  Vx.obind2 y0 (fun y1 =>
  some (false, ())) (fun z1 =>
  some z1.1)
theorem r104 (p106 : DenS I106 → Bool) (f106 : DenS I106 → DenS O106) (w104_2 : Pat.D P104_2 → Option (OutT X104_2 Q104_2)) (a0 : Den (.slice (.slice (.int .u64)))) :
    run { P := Go.Proofs.Tryd.prog, sums := [(106, ⟨I106, O106, p106, f106⟩)], loops := [(104, 2, LoopSpec.of P104_2 A104_2 X104_2 Q104_2 w104_2)], globs := G1 } 9 104 Go.Proofs.Tryd.f104 I104 O104 (a0, ()) = t104 p106 f106 w104_2 a0 := by kernel_rfl
noncomputable def W104_2 : P104_2.D → Option (OutT X104_2 Q104_2) := lfix fun L => h104_2 S106.pre S106.F L some
noncomputable def T104 (x : DenS I104) : Option (DenS O104) := t104 S106.pre S106.F W104_2 x.1
noncomputable def C104 : Cfg := { P := Go.Proofs.Tryd.prog, sums := [(106, S106)], loops := [(104, 2, LoopSpec.of P104_2 A104_2 X104_2 Q104_2 W104_2)], globs := G1 }
noncomputable def S104 : Sum := sumOf I104 O104 T104 (DenS.dflt O104)
theorem S104_sound : Sound Go.Proofs.Tryd.prog G1 104 S104 :=
  fn_sound C104 9 104 Go.Proofs.Tryd.f104 mixedOk (by kernel_rfl) (by kernel_rfl) (by kernel_rfl) ⟨S106_sound, trivial⟩ ⟨rfl, fun d => loopOk_of (fun L e x => h104_2 S106.pre S106.F L e x) (m104_2 S106.pre S106.F) (fun R L e x => s104_2 S106.pre S106.F W104_2 d R L e x), trivial⟩ I104 O104 T104 _ fun x => r104 S106.pre S106.F W104_2 x.1
/-- vernier/nat.Shl -/
abbrev I72 : Sig := [(false, .slice (.int .u64)), (false, .int .i64)]
abbrev O72 : Sig := [(false, .slice (.int .u64)), (false, .int .i64)]
noncomputable def t72 (p105 : DenS I105 → Bool) (f105 : DenS I105 → DenS O105) (p104 : DenS I104 → Bool) (f104 : DenS I104 → DenS O104) (a0 : Den (.slice (.int .u64))) (a1 : Den (.int .i64)) : Option (DenS O72) :=
  bif ((decide (a1 < (0 : Int))) || (decide (a1 > (65536 : Int)))) then
  (some ([], ((7 : Int), ())))
  else bif (p104 ((a0 :: []), ())) then
  (bif (f104 ((a0 :: []), ())).1 then
  (some ([], ((5 : Int), ())))
  else bif (p105 (a0, (a1, ()))) then
  (bif (p104 (((f105 (a0, (a1, ()))).1 :: []), ())) then
  (bif (f104 (((f105 (a0, (a1, ()))).1 :: []), ())).1 then
  (some ([], ((5 : Int), ())))
  else some ((f105 (a0, (a1, ()))).1, ((0 : Int), ())))
  else none)
  else none)
  else none
theorem r72 (p105 : DenS I105 → Bool) (f105 : DenS I105 → DenS O105) (p104 : DenS I104 → Bool) (f104 : DenS I104 → DenS O104) (a0 : Den (.slice (.int .u64))) (a1 : Den (.int .i64)) :
    run { P := Go.Proofs.Tryd.prog, sums := [(105, ⟨I105, O105, p105, f105⟩), (104, ⟨I104, O104, p104, f104⟩)], loops := [], globs := G1 } 9 72 Go.Proofs.Tryd.f72 I72 O72 (a0, a1, ()) = t72 p105 f105 p104 f104 a0 a1 := by kernel_rfl
noncomputable def T72 (x : DenS I72) : Option (DenS O72) := t72 S105.pre S105.F S104.pre S104.F x.1 x.2.1
noncomputable def C72 : Cfg := { P := Go.Proofs.Tryd.prog, sums := [(105, S105), (104, S104)], loops := [], globs := G1 }
noncomputable def S72 : Sum := sumOf I72 O72 T72 (DenS.dflt O72)
theorem S72_sound : Sound Go.Proofs.Tryd.prog G1 72 S72 :=
  fn_sound C72 9 72 Go.Proofs.Tryd.f72 mixedOk (by kernel_rfl) (by kernel_rfl) (by kernel_rfl) ⟨S105_sound, ⟨S104_sound, trivial⟩⟩ trivial I72 O72 T72 _ fun x => r72 S105.pre S105.F S104.pre S104.F x.1 x.2.1
/-- vernier/nat.Shr -/
abbrev I111 : Sig := [(false, .slice (.int .u64)), (false, .int .i64)]
abbrev O111 : Sig := [(false, .slice (.int .u64)), (false, .int .i64)]
noncomputable def t111 (p108 : DenS I108 → Bool) (f108 : DenS I108 → DenS O108) (a0 : Den (.slice (.int .u64))) (a1 : Den (.int .i64)) : Option (DenS O111) :=
  bif (decide (a1 < (0 : Int))) then
  (some ([], ((7 : Int), ())))
  else bif (p108 (a0, (a1, ()))) then
  (some ((f108 (a0, (a1, ()))).1, ((0 : Int), ())))
  else none
theorem r111 (p108 : DenS I108 → Bool) (f108 : DenS I108 → DenS O108) (a0 : Den (.slice (.int .u64))) (a1 : Den (.int .i64)) :
    run { P := Go.Proofs.Tryd.prog, sums := [(108, ⟨I108, O108, p108, f108⟩)], loops := [], globs := G1 } 9 111 Go.Proofs.Tryd.f111 I111 O111 (a0, a1, ()) = t111 p108 f108 a0 a1 := by kernel_rfl
noncomputable def T111 (x : DenS I111) : Option (DenS O111) := t111 S108.pre S108.F x.1 x.2.1
noncomputable def C111 : Cfg := { P := Go.Proofs.Tryd.prog, sums := [(108, S108)], loops := [], globs := G1 }
noncomputable def S111 : Sum := sumOf I111 O111 T111 (DenS.dflt O111)
theorem S111_sound : Sound Go.Proofs.Tryd.prog G1 111 S111 :=
  fn_sound C111 9 111 Go.Proofs.Tryd.f111 mixedOk (by kernel_rfl) (by kernel_rfl) (by kernel_rfl) ⟨S108_sound, trivial⟩ trivial I111 O111 T111 _ fun x => r111 S108.pre S108.F x.1 x.2.1
/-- vernier/round.further -/
abbrev I130 : Sig := [(false, .int .i64), (false, .bool), (false, .bool), (false, .int .u64)]
abbrev O130 : Sig := [(false, .bool)]
noncomputable def t130 (a0 : Den (.int .i64)) (a1 : Den (.bool)) (a2 : Den (.bool)) (a3 : Den (.int .u64)) : Option (DenS O130) :=
  bif (a0 == (4 : Int)) then
  (some ((!(!a1)), ()))
  else bif (a0 == (3 : Int)) then
  (some ((!a1), ()))
  else bif (a0 == (0 : Int)) then
  (bif (a3 == (2 : Int)) then
  (some (a2, ()))
  else some ((decide (a3 ≥ (2 : Int))), ()))
  else bif (a0 == (1 : Int)) then
  (some ((decide (a3 ≥ (2 : Int))), ()))
  else bif (a0 == (5 : Int)) then
  (some ((!a2), ()))
  else some (false, ())
theorem r130 (a0 : Den (.int .i64)) (a1 : Den (.bool)) (a2 : Den (.bool)) (a3 : Den (.int .u64)) :
    run { P := Go.Proofs.Tryd.prog, sums := [], loops := [], globs := G1 } 9 130 Go.Proofs.Tryd.f130 I130 O130 (a0, a1, a2, a3, ()) = t130 a0 a1 a2 a3 := by kernel_rfl
noncomputable def T130 (x : DenS I130) : Option (DenS O130) := t130 x.1 x.2.1 x.2.2.1 x.2.2.2.1
noncomputable def C130 : Cfg := { P := Go.Proofs.Tryd.prog, sums := [], loops := [], globs := G1 }
noncomputable def S130 : Sum := sumOf I130 O130 T130 (DenS.dflt O130)
theorem S130_sound : Sound Go.Proofs.Tryd.prog G1 130 S130 :=
  fn_sound C130 9 130 Go.Proofs.Tryd.f130 mixedOk (by kernel_rfl) (by kernel_rfl) (by kernel_rfl) trivial trivial I130 O130 T130 _ fun x => r130 x.1 x.2.1 x.2.2.1 x.2.2.2.1
/-- vernier/nat.Add -/
abbrev I80 : Sig := [(false, .slice (.int .u64)), (false, .slice (.int .u64))]
abbrev O80 : Sig := [(false, .slice (.int .u64))]
abbrev P80_8 : Pat := ⟨61, [(28, .one (.v .i64)), (1, .one (.sl (.int .u64))), (29, .one (.v .i64)), (0, .one (.sl (.int .u64))), (6, .one (.v .u64)), (5, .one (.own 0))], [.arr (.int .u64)]⟩
abbrev A80_8 : List (Nat × Shape) := []
abbrev X80_8 : List (Nat × Pat) := [(0, ⟨61, [(0, .one (.sl (.int .u64))), (6, .one (.v .u64)), (5, .one (.own 0))], [.arr (.int .u64)]⟩)]
abbrev Q80_8 : Option Pat := none
noncomputable def h80_8 (p112 : DenS I112 → Bool) (f112 : DenS I112 → DenS O112) (p106 : DenS I106 → Bool) (f106 : DenS I106 → DenS O106) {R : Type} (L : Pat.D P80_8 → Option R) (e : OutT X80_8 Q80_8 → Option R) (x : Pat.D P80_8) : Option R :=
  bif (decide (x.1.2.2.1 < x.1.1)) then
  (bif (decide (x.1.2.2.1 < (x.1.2.1.length : Int))) then
  (bif ((decide ((0 : Int) ≤ x.1.2.2.1)) && (decide (x.1.2.2.1 < (x.1.2.1.length : Int)))) then
  (bif ((decide ((0 : Int) ≤ x.1.2.2.1)) && (decide (x.1.2.2.1 < (x.1.2.2.2.1.length : Int)))) then
  (bif (p112 ((x.1.2.2.2.1.getD (Int.toNat x.1.2.2.1) (0 : Int)), ((x.1.2.1.getD (Int.toNat x.1.2.2.1) (0 : Int)), (x.1.2.2.2.2.1, ())))) then
  (bif ((decide ((0 : Int) ≤ x.1.2.2.1)) && (decide (x.1.2.2.1 < (x.2.1.length : Int)))) then
  ((L ((x.1.1, (x.1.2.1, ((Go.IntKind.wrap Go.IntKind.i64 (x.1.2.2.1 + (1 : Int))), (x.1.2.2.2.1, ((f112 ((x.1.2.2.2.1.getD (Int.toNat x.1.2.2.1) (0 : Int)), ((x.1.2.1.getD (Int.toNat x.1.2.2.1) (0 : Int)), (x.1.2.2.2.2.1, ())))).2.1, ((), ())))))), ((x.2.1.set (Int.toNat x.1.2.2.1) (f112 ((x.1.2.2.2.1.getD (Int.toNat x.1.2.2.1) (0 : Int)), ((x.1.2.1.getD (Int.toNat x.1.2.2.1) (0 : Int)), (x.1.2.2.2.2.1, ())))).1), ()))))
  else none)
  else none)
  else none)
  else none)
  else bif ((decide ((0 : Int) ≤ x.1.2.2.1)) && (decide (x.1.2.2.1 < (x.1.2.2.2.1.length : Int)))) then
  (bif (p112 ((x.1.2.2.2.1.getD (Int.toNat x.1.2.2.1) (0 : Int)), ((0 : Int), (x.1.2.2.2.2.1, ())))) then
  (bif ((decide ((0 : Int) ≤ x.1.2.2.1)) && (decide (x.1.2.2.1 < (x.2.1.length : Int)))) then
  ((L ((x.1.1, (x.1.2.1, ((Go.IntKind.wrap Go.IntKind.i64 (x.1.2.2.1 + (1 : Int))), (x.1.2.2.2.1, ((f112 ((x.1.2.2.2.1.getD (Int.toNat x.1.2.2.1) (0 : Int)), ((0 : Int), (x.1.2.2.2.2.1, ())))).2.1, ((), ())))))), ((x.2.1.set (Int.toNat x.1.2.2.1) (f112 ((x.1.2.2.2.1.getD (Int.toNat x.1.2.2.1) (0 : Int)), ((0 : Int), (x.1.2.2.2.2.1, ())))).1), ()))))
  else none)
  else none)
  else none)
  else (e (.inl ((x.1.2.2.2.1, (x.1.2.2.2.2.1, ((), ()))), x.2)))
theorem s80_8 (p112 : DenS I112 → Bool) (f112 : DenS I112 → DenS O112) (p106 : DenS I106 → Bool) (f106 : DenS I106 → DenS O106) (w80_8 : Pat.D P80_8 → Option (OutT X80_8 Q80_8)) (d : Nat) (R : Type) (L : Pat.D P80_8 → Option R) (e : OutT X80_8 Q80_8 → Option R) (x : Pat.D P80_8) :
    lStep { P := Go.Proofs.Tryd.prog, sums := [(112, ⟨I112, O112, p112, f112⟩), (106, ⟨I106, O106, p106, f106⟩)], loops := [(80, 8, LoopSpec.of P80_8 A80_8 X80_8 Q80_8 w80_8)], globs := G1 } (d + 2) 80 (bodyOf Go.Proofs.Tryd.f80 8) P80_8 A80_8 X80_8 Q80_8 (R := R) L e x = h80_8 p112 f112 p106 f106 L e x := by kernel_rfl
theorem m80_8 (p112 : DenS I112 → Bool) (f112 : DenS I112 → DenS O112) (p106 : DenS I106 → Bool) (f106 : DenS I106 → DenS O106) : Par fun L e x => h80_8 p112 f112 p106 f106 L e x := by
  intro A B rel L L' e e' h0 hL he x
  unfold h80_8
  repeat' (first | exact h0 | exact hL _ | exact he _ | apply rel_cond | (apply rel_obind h0; intro _) | (apply rel_obind2 <;> intro _))
noncomputable def t80 (p112 : DenS I112 → Bool) (f112 : DenS I112 → DenS O112) (p106 : DenS I106 → Bool) (f106 : DenS I106 → DenS O106) (w80_8 : Pat.D P80_8 → Option (OutT X80_8 Q80_8)) (a0 : Den (.slice (.int .u64))) (a1 : Den (.slice (.int .u64))) : Option (DenS O80) :=
  bif (p106 (a0, ())) then
  (bif (p106 (a1, ())) then
  (bif (decide (((f106 (a0, ())).1.length : Int) < ((f106 (a1, ())).1.length : Int))) then
  (bif ((decide ((0 : Int) ≤ (Go.IntKind.wrap Go.IntKind.i64 (((f106 (a1, ())).1.length : Int) + (1 : Int))))) && (decide (((Go.IntKind.wrap Go.IntKind.i64 (((f106 (a1, ())).1.length : Int) + (1 : Int))) * (8 : Int)) ≤ (140737488355328 : Int)))) then
  (Vx.obind (w80_8 ((((f106 (a1, ())).1.length : Int), ((f106 (a0, ())).1, ((0 : Int), ((f106 (a1, ())).1, ((0 : Int), ((), ())))))), ((((f106 (a1, ())).1.take (List.replicate (Int.toNat (Go.IntKind.wrap Go.IntKind.i64 (((f106 (a1, ())).1.length : Int) + (1 : Int)))) (0 : Int)).length) ++ ((List.replicate (Int.toNat (Go.IntKind.wrap Go.IntKind.i64 (((f106 (a1, ())).1.length : Int) + (1 : Int)))) (0 : Int)).drop (f106 (a1, ())).1.length)), ()))) fun y4 =>
  Vx.obind2 y4 (fun y5 =>
  bif ((decide ((0 : Int) ≤ (y5.1.1.length : Int))) && (decide ((y5.1.1.length : Int) < (y5.2.1.length : Int)))) then
  (bif (p106 ((y5.2.1.set (Int.toNat (y5.1.1.length : Int)) y5.1.2.1), ())) then
  (some (f106 ((y5.2.1.set (Int.toNat (y5.1.1.length : Int)) y5.1.2.1), ())))
  else none)
  else none) (fun z5 =>
  none))
  else none)
  else bif ((decide ((0 : Int) ≤ (Go.IntKind.wrap Go.IntKind.i64 (((f106 (a0, ())).1.length : Int) + (1 : Int))))) && (decide (((Go.IntKind.wrap Go.IntKind.i64 (((f106 (a0, ())).1.length : Int) + (1 : Int))) * (8 : Int)) ≤ (140737488355328 : Int)))) then
  (Vx.obind (w80_8 ((((f106 (a0, ())).1.length : Int), ((f106 (a1, ())).1, ((0 : Int), ((f106 (a0, ())).1, ((0 : Int), ((), ())))))), ((((f106 (a0, ())).1.take (List.replicate (Int.toNat (Go.IntKind.wrap Go.IntKind.i64 (((f106 (a0, ())).1.length : Int) + (1 : Int)))) (0 : Int)).length) ++ ((List.replicate (Int.toNat (Go.IntKind.wrap Go.IntKind.i64 (((f106 (a0, ())).1.length : Int) + (1 : Int)))) (0 : Int)).drop (f106 (a0, ())).1.length)), ()))) fun y4 =>
  Vx.obind2 y4 (fun y5 =>
  bif ((decide ((0 : Int) ≤ (y5.1.1.length : Int))) && (decide ((y5.1.1.length : Int) < (y5.2.1.length : Int)))) then
  (bif (p106 ((y5.2.1.set (Int.toNat (y5.1.1.length : Int)) y5.1.2.1), ())) then
  (some (f106 ((y5.2.1.set (Int.toNat (y5.1.1.length : Int)) y5.1.2.1), ())))
  else none)
  else none) (fun z5 =>
  none))
  else none)
  else none)
  else none
theorem r80 (p112 : DenS I112 → Bool) (f112 : DenS I112 → DenS O112) (p106 : DenS I106 → Bool) (f106 : DenS I106 → DenS O106) (w80_8 : Pat.D P80_8 → Option (OutT X80_8 Q80_8)) (a0 : Den (.slice (.int .u64))) (a1 : Den (.slice (.int .u64))) :
    run { P := Go.Proofs.Tryd.prog, sums := [(112, ⟨I112, O112, p112, f112⟩), (106, ⟨I106, O106, p106, f106⟩)], loops := [(80, 8, LoopSpec.of P80_8 A80_8 X80_8 Q80_8 w80_8)], globs := G1 } 9 80 Go.Proofs.Tryd.f80 I80 O80 (a0, a1, ()) = t80 p112 f112 p106 f106 w80_8 a0 a1 := by kernel_rfl
noncomputable def W80_8 : P80_8.D → Option (OutT X80_8 Q80_8) := lfix fun L => h80_8 S112.pre S112.F S106.pre S106.F L some
noncomputable def T80 (x : DenS I80) : Option (DenS O80) := t80 S112.pre S112.F S106.pre S106.F W80_8 x.1 x.2.1
noncomputable def C80 : Cfg := { P := Go.Proofs.Tryd.prog, sums := [(112, S112), (106, S106)], loops := [(80, 8, LoopSpec.of P80_8 A80_8 X80_8 Q80_8 W80_8)], globs := G1 }
noncomputable def S80 : Sum := sumOf I80 O80 T80 (DenS.dflt O80)
theorem S80_sound : Sound Go.Proofs.Tryd.prog G1 80 S80 :=
  fn_sound C80 9 80 Go.Proofs.Tryd.f80 mixedOk (by kernel_rfl) (by kernel_rfl) (by kernel_rfl) ⟨S112_sound, ⟨S106_sound, trivial⟩⟩ ⟨rfl, fun d => loopOk_of (fun L e x => h80_8 S112.pre S112.F S106.pre S106.F L e x) (m80_8 S112.pre S112.F S106.pre S106.F) (fun R L e x => s80_8 S112.pre S112.F S106.pre S106.F W80_8 d R L e x), trivial⟩ I80 O80 T80 _ fun x => r80 S112.pre S112.F S106.pre S106.F W80_8 x.1 x.2.1
/-- (vernier/round.number).cut -/
abbrev I120 : Sig := [(true, .pair (.bool) (.pair (.slice (.int .u64)) (.pair (.int .i64) (.pair (.bool) (.unit))))), (false, .int .i64), (false, .int .i64)]
abbrev O120 : Sig := [(false, .slice (.int .u64)), (false, .bool)]
noncomputable def t120 (p129 : DenS I129 → Bool) (f129 : DenS I129 → DenS O129) (p72 : DenS I72 → Bool) (f72 : DenS I72 → DenS O72) (p111 : DenS I111 → Bool) (f111 : DenS I111 → DenS O111) (p130 : DenS I130 → Bool) (f130 : DenS I130 → DenS O130) (p80 : DenS I80 → Bool) (f80 : DenS I80 → DenS O80) (a0 : Den (.pair (.bool) (.pair (.slice (.int .u64)) (.pair (.int .i64) (.pair (.bool) (.unit)))))) (a1 : Den (.int .i64)) (a2 : Den (.int .i64)) : Option (DenS O120) :=
  bif (decide ((Go.IntKind.wrap Go.IntKind.i64 (a2 - a0.2.2.1)) ≥ (2 : Int))) then
  (bif (p129 (a0.2.1, ((Go.IntKind.wrap Go.IntKind.i64 ((Go.IntKind.wrap Go.IntKind.i64 (a2 - a0.2.2.1)) - (2 : Int))), ()))) then
  (bif (decide (((f129 (a0.2.1, ((Go.IntKind.wrap Go.IntKind.i64 ((Go.IntKind.wrap Go.IntKind.i64 (a2 - a0.2.2.1)) - (2 : Int))), ()))).1.length : Int) > (0 : Int))) then
  (bif (decide ((0 : Int) < ((f129 (a0.2.1, ((Go.IntKind.wrap Go.IntKind.i64 ((Go.IntKind.wrap Go.IntKind.i64 (a2 - a0.2.2.1)) - (2 : Int))), ()))).1.length : Int))) then
  (bif a0.2.2.2.1 then
  (bif (p111 ((f129 (a0.2.1, ((Go.IntKind.wrap Go.IntKind.i64 ((Go.IntKind.wrap Go.IntKind.i64 (a2 - a0.2.2.1)) - (2 : Int))), ()))).1, ((2 : Int), ()))) then
  (bif ((decide ((0 : Int) < ((f111 ((f129 (a0.2.1, ((Go.IntKind.wrap Go.IntKind.i64 ((Go.IntKind.wrap Go.IntKind.i64 (a2 - a0.2.2.1)) - (2 : Int))), ()))).1, ((2 : Int), ()))).1.length : Int))) || (!(decide (((f111 ((f129 (a0.2.1, ((Go.IntKind.wrap Go.IntKind.i64 ((Go.IntKind.wrap Go.IntKind.i64 (a2 - a0.2.2.1)) - (2 : Int))), ()))).1, ((2 : Int), ()))).1.length : Int) > (0 : Int))))) then
  (bif ((p130 (a1, (a0.1, (((decide (((f111 ((f129 (a0.2.1, ((Go.IntKind.wrap Go.IntKind.i64 ((Go.IntKind.wrap Go.IntKind.i64 (a2 - a0.2.2.1)) - (2 : Int))), ()))).1, ((2 : Int), ()))).1.length : Int) > (0 : Int))) && ((Vx.andI Go.IntKind.u64 ((f111 ((f129 (a0.2.1, ((Go.IntKind.wrap Go.IntKind.i64 ((Go.IntKind.wrap Go.IntKind.i64 (a2 - a0.2.2.1)) - (2 : Int))), ()))).1, ((2 : Int), ()))).1.getD (Int.toNat (0 : Int)) (0 : Int)) (1 : Int)) == (1 : Int))), ((Vx.orI Go.IntKind.u64 (Vx.andI Go.IntKind.u64 ((f129 (a0.2.1, ((Go.IntKind.wrap Go.IntKind.i64 ((Go.IntKind.wrap Go.IntKind.i64 (a2 - a0.2.2.1)) - (2 : Int))), ()))).1.getD (Int.toNat (0 : Int)) (0 : Int)) (3 : Int)) (1 : Int)), ()))))) || (!(bif ((Vx.orI Go.IntKind.u64 (Vx.andI Go.IntKind.u64 ((f129 (a0.2.1, ((Go.IntKind.wrap Go.IntKind.i64 ((Go.IntKind.wrap Go.IntKind.i64 (a2 - a0.2.2.1)) - (2 : Int))), ()))).1.getD (Int.toNat (0 : Int)) (0 : Int)) (3 : Int)) (1 : Int)) == (0 : Int)) then false else true))) then
  (bif (((Vx.orI Go.IntKind.u64 (Vx.andI Go.IntKind.u64 ((f129 (a0.2.1, ((Go.IntKind.wrap Go.IntKind.i64 ((Go.IntKind.wrap Go.IntKind.i64 (a2 - a0.2.2.1)) - (2 : Int))), ()))).1.getD (Int.toNat (0 : Int)) (0 : Int)) (3 : Int)) (1 : Int)) != (0 : Int)) && (f130 (a1, (a0.1, (((decide (((f111 ((f129 (a0.2.1, ((Go.IntKind.wrap Go.IntKind.i64 ((Go.IntKind.wrap Go.IntKind.i64 (a2 - a0.2.2.1)) - (2 : Int))), ()))).1, ((2 : Int), ()))).1.length : Int) > (0 : Int))) && ((Vx.andI Go.IntKind.u64 ((f111 ((f129 (a0.2.1, ((Go.IntKind.wrap Go.IntKind.i64 ((Go.IntKind.wrap Go.IntKind.i64 (a2 - a0.2.2.1)) - (2 : Int))), ()))).1, ((2 : Int), ()))).1.getD (Int.toNat (0 : Int)) (0 : Int)) (1 : Int)) == (1 : Int))), ((Vx.orI Go.IntKind.u64 (Vx.andI Go.IntKind.u64 ((f129 (a0.2.1, ((Go.IntKind.wrap Go.IntKind.i64 ((Go.IntKind.wrap Go.IntKind.i64 (a2 - a0.2.2.1)) - (2 : Int))), ()))).1.getD (Int.toNat (0 : Int)) (0 : Int)) (3 : Int)) (1 : Int)), ()))))).1) then
  (bif (p80 ((f111 ((f129 (a0.2.1, ((Go.IntKind.wrap Go.IntKind.i64 ((Go.IntKind.wrap Go.IntKind.i64 (a2 - a0.2.2.1)) - (2 : Int))), ()))).1, ((2 : Int), ()))).1, (((1 : Int) :: []), ()))) then
  (some ((f80 ((f111 ((f129 (a0.2.1, ((Go.IntKind.wrap Go.IntKind.i64 ((Go.IntKind.wrap Go.IntKind.i64 (a2 - a0.2.2.1)) - (2 : Int))), ()))).1, ((2 : Int), ()))).1, (((1 : Int) :: []), ()))).1, (((Vx.orI Go.IntKind.u64 (Vx.andI Go.IntKind.u64 ((f129 (a0.2.1, ((Go.IntKind.wrap Go.IntKind.i64 ((Go.IntKind.wrap Go.IntKind.i64 (a2 - a0.2.2.1)) - (2 : Int))), ()))).1.getD (Int.toNat (0 : Int)) (0 : Int)) (3 : Int)) (1 : Int)) != (0 : Int)), ())))
  else none)
  else some ((f111 ((f129 (a0.2.1, ((Go.IntKind.wrap Go.IntKind.i64 ((Go.IntKind.wrap Go.IntKind.i64 (a2 - a0.2.2.1)) - (2 : Int))), ()))).1, ((2 : Int), ()))).1, (((Vx.orI Go.IntKind.u64 (Vx.andI Go.IntKind.u64 ((f129 (a0.2.1, ((Go.IntKind.wrap Go.IntKind.i64 ((Go.IntKind.wrap Go.IntKind.i64 (a2 - a0.2.2.1)) - (2 : Int))), ()))).1.getD (Int.toNat (0 : Int)) (0 : Int)) (3 : Int)) (1 : Int)) != (0 : Int)), ())))
  else none)
  else none)
  else none)
  else bif (p111 ((f129 (a0.2.1, ((Go.IntKind.wrap Go.IntKind.i64 ((Go.IntKind.wrap Go.IntKind.i64 (a2 - a0.2.2.1)) - (2 : Int))), ()))).1, ((2 : Int), ()))) then
  (bif ((decide ((0 : Int) < ((f111 ((f129 (a0.2.1, ((Go.IntKind.wrap Go.IntKind.i64 ((Go.IntKind.wrap Go.IntKind.i64 (a2 - a0.2.2.1)) - (2 : Int))), ()))).1, ((2 : Int), ()))).1.length : Int))) || (!(decide (((f111 ((f129 (a0.2.1, ((Go.IntKind.wrap Go.IntKind.i64 ((Go.IntKind.wrap Go.IntKind.i64 (a2 - a0.2.2.1)) - (2 : Int))), ()))).1, ((2 : Int), ()))).1.length : Int) > (0 : Int))))) then
  (bif ((p130 (a1, (a0.1, (((decide (((f111 ((f129 (a0.2.1, ((Go.IntKind.wrap Go.IntKind.i64 ((Go.IntKind.wrap Go.IntKind.i64 (a2 - a0.2.2.1)) - (2 : Int))), ()))).1, ((2 : Int), ()))).1.length : Int) > (0 : Int))) && ((Vx.andI Go.IntKind.u64 ((f111 ((f129 (a0.2.1, ((Go.IntKind.wrap Go.IntKind.i64 ((Go.IntKind.wrap Go.IntKind.i64 (a2 - a0.2.2.1)) - (2 : Int))), ()))).1, ((2 : Int), ()))).1.getD (Int.toNat (0 : Int)) (0 : Int)) (1 : Int)) == (1 : Int))), ((Vx.andI Go.IntKind.u64 ((f129 (a0.2.1, ((Go.IntKind.wrap Go.IntKind.i64 ((Go.IntKind.wrap Go.IntKind.i64 (a2 - a0.2.2.1)) - (2 : Int))), ()))).1.getD (Int.toNat (0 : Int)) (0 : Int)) (3 : Int)), ()))))) || (!(bif ((Vx.andI Go.IntKind.u64 ((f129 (a0.2.1, ((Go.IntKind.wrap Go.IntKind.i64 ((Go.IntKind.wrap Go.IntKind.i64 (a2 - a0.2.2.1)) - (2 : Int))), ()))).1.getD (Int.toNat (0 : Int)) (0 : Int)) (3 : Int)) == (0 : Int)) then false else true))) then
  (bif (((Vx.andI Go.IntKind.u64 ((f129 (a0.2.1, ((Go.IntKind.wrap Go.IntKind.i64 ((Go.IntKind.wrap Go.IntKind.i64 (a2 - a0.2.2.1)) - (2 : Int))), ()))).1.getD (Int.toNat (0 : Int)) (0 : Int)) (3 : Int)) != (0 : Int)) && (f130 (a1, (a0.1, (((decide (((f111 ((f129 (a0.2.1, ((Go.IntKind.wrap Go.IntKind.i64 ((Go.IntKind.wrap Go.IntKind.i64 (a2 - a0.2.2.1)) - (2 : Int))), ()))).1, ((2 : Int), ()))).1.length : Int) > (0 : Int))) && ((Vx.andI Go.IntKind.u64 ((f111 ((f129 (a0.2.1, ((Go.IntKind.wrap Go.IntKind.i64 ((Go.IntKind.wrap Go.IntKind.i64 (a2 - a0.2.2.1)) - (2 : Int))), ()))).1, ((2 : Int), ()))).1.getD (Int.toNat (0 : Int)) (0 : Int)) (1 : Int)) == (1 : Int))), ((Vx.andI Go.IntKind.u64 ((f129 (a0.2.1, ((Go.IntKind.wrap Go.IntKind.i64 ((Go.IntKind.wrap Go.IntKind.i64 (a2 - a0.2.2.1)) - (2 : Int))), ()))).1.getD (Int.toNat (0 : Int)) (0 : Int)) (3 : Int)), ()))))).1) then
  (bif (p80 ((f111 ((f129 (a0.2.1, ((Go.IntKind.wrap Go.IntKind.i64 ((Go.IntKind.wrap Go.IntKind.i64 (a2 - a0.2.2.1)) - (2 : Int))), ()))).1, ((2 : Int), ()))).1, (((1 : Int) :: []), ()))) then
  (some ((f80 ((f111 ((f129 (a0.2.1, ((Go.IntKind.wrap Go.IntKind.i64 ((Go.IntKind.wrap Go.IntKind.i64 (a2 - a0.2.2.1)) - (2 : Int))), ()))).1, ((2 : Int), ()))).1, (((1 : Int) :: []), ()))).1, (((Vx.andI Go.IntKind.u64 ((f129 (a0.2.1, ((Go.IntKind.wrap Go.IntKind.i64 ((Go.IntKind.wrap Go.IntKind.i64 (a2 - a0.2.2.1)) - (2 : Int))), ()))).1.getD (Int.toNat (0 : Int)) (0 : Int)) (3 : Int)) != (0 : Int)), ())))
  else none)
  else some ((f111 ((f129 (a0.2.1, ((Go.IntKind.wrap Go.IntKind.i64 ((Go.IntKind.wrap Go.IntKind.i64 (a2 - a0.2.2.1)) - (2 : Int))), ()))).1, ((2 : Int), ()))).1, (((Vx.andI Go.IntKind.u64 ((f129 (a0.2.1, ((Go.IntKind.wrap Go.IntKind.i64 ((Go.IntKind.wrap Go.IntKind.i64 (a2 - a0.2.2.1)) - (2 : Int))), ()))).1.getD (Int.toNat (0 : Int)) (0 : Int)) (3 : Int)) != (0 : Int)), ())))
  else none)
  else none)
  else none)
  else none)
  else bif a0.2.2.2.1 then
  (bif (p111 ((f129 (a0.2.1, ((Go.IntKind.wrap Go.IntKind.i64 ((Go.IntKind.wrap Go.IntKind.i64 (a2 - a0.2.2.1)) - (2 : Int))), ()))).1, ((2 : Int), ()))) then
  (bif ((decide ((0 : Int) < ((f111 ((f129 (a0.2.1, ((Go.IntKind.wrap Go.IntKind.i64 ((Go.IntKind.wrap Go.IntKind.i64 (a2 - a0.2.2.1)) - (2 : Int))), ()))).1, ((2 : Int), ()))).1.length : Int))) || (!(decide (((f111 ((f129 (a0.2.1, ((Go.IntKind.wrap Go.IntKind.i64 ((Go.IntKind.wrap Go.IntKind.i64 (a2 - a0.2.2.1)) - (2 : Int))), ()))).1, ((2 : Int), ()))).1.length : Int) > (0 : Int))))) then
  (bif ((p130 (a1, (a0.1, (((decide (((f111 ((f129 (a0.2.1, ((Go.IntKind.wrap Go.IntKind.i64 ((Go.IntKind.wrap Go.IntKind.i64 (a2 - a0.2.2.1)) - (2 : Int))), ()))).1, ((2 : Int), ()))).1.length : Int) > (0 : Int))) && ((Vx.andI Go.IntKind.u64 ((f111 ((f129 (a0.2.1, ((Go.IntKind.wrap Go.IntKind.i64 ((Go.IntKind.wrap Go.IntKind.i64 (a2 - a0.2.2.1)) - (2 : Int))), ()))).1, ((2 : Int), ()))).1.getD (Int.toNat (0 : Int)) (0 : Int)) (1 : Int)) == (1 : Int))), ((Vx.orI Go.IntKind.u64 (0 : Int) (1 : Int)), ()))))) || false) then
  (bif (f130 (a1, (a0.1, (((decide (((f111 ((f129 (a0.2.1, ((Go.IntKind.wrap Go.IntKind.i64 ((Go.IntKind.wrap Go.IntKind.i64 (a2 - a0.2.2.1)) - (2 : Int))), ()))).1, ((2 : Int), ()))).1.length : Int) > (0 : Int))) && ((Vx.andI Go.IntKind.u64 ((f111 ((f129 (a0.2.1, ((Go.IntKind.wrap Go.IntKind.i64 ((Go.IntKind.wrap Go.IntKind.i64 (a2 - a0.2.2.1)) - (2 : Int))), ()))).1, ((2 : Int), ()))).1.getD (Int.toNat (0 : Int)) (0 : Int)) (1 : Int)) == (1 : Int))), ((Vx.orI Go.IntKind.u64 (0 : Int) (1 : Int)), ()))))).1 then
  (bif (p80 ((f111 ((f129 (a0.2.1, ((Go.IntKind.wrap Go.IntKind.i64 ((Go.IntKind.wrap Go.IntKind.i64 (a2 - a0.2.2.1)) - (2 : Int))), ()))).1, ((2 : Int), ()))).1, (((1 : Int) :: []), ()))) then
  (some ((f80 ((f111 ((f129 (a0.2.1, ((Go.IntKind.wrap Go.IntKind.i64 ((Go.IntKind.wrap Go.IntKind.i64 (a2 - a0.2.2.1)) - (2 : Int))), ()))).1, ((2 : Int), ()))).1, (((1 : Int) :: []), ()))).1, (true, ())))
  else none)
  else some ((f111 ((f129 (a0.2.1, ((Go.IntKind.wrap Go.IntKind.i64 ((Go.IntKind.wrap Go.IntKind.i64 (a2 - a0.2.2.1)) - (2 : Int))), ()))).1, ((2 : Int), ()))).1, (true, ())))
  else none)
  else none)
  else none)
  else bif (p111 ((f129 (a0.2.1, ((Go.IntKind.wrap Go.IntKind.i64 ((Go.IntKind.wrap Go.IntKind.i64 (a2 - a0.2.2.1)) - (2 : Int))), ()))).1, ((2 : Int), ()))) then
  (bif ((decide ((0 : Int) < ((f111 ((f129 (a0.2.1, ((Go.IntKind.wrap Go.IntKind.i64 ((Go.IntKind.wrap Go.IntKind.i64 (a2 - a0.2.2.1)) - (2 : Int))), ()))).1, ((2 : Int), ()))).1.length : Int))) || (!(decide (((f111 ((f129 (a0.2.1, ((Go.IntKind.wrap Go.IntKind.i64 ((Go.IntKind.wrap Go.IntKind.i64 (a2 - a0.2.2.1)) - (2 : Int))), ()))).1, ((2 : Int), ()))).1.length : Int) > (0 : Int))))) then
  (bif ((p130 (a1, (a0.1, (((decide (((f111 ((f129 (a0.2.1, ((Go.IntKind.wrap Go.IntKind.i64 ((Go.IntKind.wrap Go.IntKind.i64 (a2 - a0.2.2.1)) - (2 : Int))), ()))).1, ((2 : Int), ()))).1.length : Int) > (0 : Int))) && ((Vx.andI Go.IntKind.u64 ((f111 ((f129 (a0.2.1, ((Go.IntKind.wrap Go.IntKind.i64 ((Go.IntKind.wrap Go.IntKind.i64 (a2 - a0.2.2.1)) - (2 : Int))), ()))).1, ((2 : Int), ()))).1.getD (Int.toNat (0 : Int)) (0 : Int)) (1 : Int)) == (1 : Int))), ((0 : Int), ()))))) || true) then
  (some ((f111 ((f129 (a0.2.1, ((Go.IntKind.wrap Go.IntKind.i64 ((Go.IntKind.wrap Go.IntKind.i64 (a2 - a0.2.2.1)) - (2 : Int))), ()))).1, ((2 : Int), ()))).1, (false, ())))
  else none)
  else none)
  else none)
  else none)
  else bif (p72 (a0.2.1, ((Go.IntKind.wrap Go.IntKind.i64 ((2 : Int) - (Go.IntKind.wrap Go.IntKind.i64 (a2 - a0.2.2.1)))), ()))) then
  (bif (decide (((f72 (a0.2.1, ((Go.IntKind.wrap Go.IntKind.i64 ((2 : Int) - (Go.IntKind.wrap Go.IntKind.i64 (a2 - a0.2.2.1)))), ()))).1.length : Int) > (0 : Int))) then
  (bif (decide ((0 : Int) < ((f72 (a0.2.1, ((Go.IntKind.wrap Go.IntKind.i64 ((2 : Int) - (Go.IntKind.wrap Go.IntKind.i64 (a2 - a0.2.2.1)))), ()))).1.length : Int))) then
  (bif a0.2.2.2.1 then
  (bif (p111 ((f72 (a0.2.1, ((Go.IntKind.wrap Go.IntKind.i64 ((2 : Int) - (Go.IntKind.wrap Go.IntKind.i64 (a2 - a0.2.2.1)))), ()))).1, ((2 : Int), ()))) then
  (bif ((decide ((0 : Int) < ((f111 ((f72 (a0.2.1, ((Go.IntKind.wrap Go.IntKind.i64 ((2 : Int) - (Go.IntKind.wrap Go.IntKind.i64 (a2 - a0.2.2.1)))), ()))).1, ((2 : Int), ()))).1.length : Int))) || (!(decide (((f111 ((f72 (a0.2.1, ((Go.IntKind.wrap Go.IntKind.i64 ((2 : Int) - (Go.IntKind.wrap Go.IntKind.i64 (a2 - a0.2.2.1)))), ()))).1, ((2 : Int), ()))).1.length : Int) > (0 : Int))))) then
  (bif ((p130 (a1, (a0.1, (((decide (((f111 ((f72 (a0.2.1, ((Go.IntKind.wrap Go.IntKind.i64 ((2 : Int) - (Go.IntKind.wrap Go.IntKind.i64 (a2 - a0.2.2.1)))), ()))).1, ((2 : Int), ()))).1.length : Int) > (0 : Int))) && ((Vx.andI Go.IntKind.u64 ((f111 ((f72 (a0.2.1, ((Go.IntKind.wrap Go.IntKind.i64 ((2 : Int) - (Go.IntKind.wrap Go.IntKind.i64 (a2 - a0.2.2.1)))), ()))).1, ((2 : Int), ()))).1.getD (Int.toNat (0 : Int)) (0 : Int)) (1 : Int)) == (1 : Int))), ((Vx.orI Go.IntKind.u64 (Vx.andI Go.IntKind.u64 ((f72 (a0.2.1, ((Go.IntKind.wrap Go.IntKind.i64 ((2 : Int) - (Go.IntKind.wrap Go.IntKind.i64 (a2 - a0.2.2.1)))), ()))).1.getD (Int.toNat (0 : Int)) (0 : Int)) (3 : Int)) (1 : Int)), ()))))) || (!(bif ((Vx.orI Go.IntKind.u64 (Vx.andI Go.IntKind.u64 ((f72 (a0.2.1, ((Go.IntKind.wrap Go.IntKind.i64 ((2 : Int) - (Go.IntKind.wrap Go.IntKind.i64 (a2 - a0.2.2.1)))), ()))).1.getD (Int.toNat (0 : Int)) (0 : Int)) (3 : Int)) (1 : Int)) == (0 : Int)) then false else true))) then
  (bif (((Vx.orI Go.IntKind.u64 (Vx.andI Go.IntKind.u64 ((f72 (a0.2.1, ((Go.IntKind.wrap Go.IntKind.i64 ((2 : Int) - (Go.IntKind.wrap Go.IntKind.i64 (a2 - a0.2.2.1)))), ()))).1.getD (Int.toNat (0 : Int)) (0 : Int)) (3 : Int)) (1 : Int)) != (0 : Int)) && (f130 (a1, (a0.1, (((decide (((f111 ((f72 (a0.2.1, ((Go.IntKind.wrap Go.IntKind.i64 ((2 : Int) - (Go.IntKind.wrap Go.IntKind.i64 (a2 - a0.2.2.1)))), ()))).1, ((2 : Int), ()))).1.length : Int) > (0 : Int))) && ((Vx.andI Go.IntKind.u64 ((f111 ((f72 (a0.2.1, ((Go.IntKind.wrap Go.IntKind.i64 ((2 : Int) - (Go.IntKind.wrap Go.IntKind.i64 (a2 - a0.2.2.1)))), ()))).1, ((2 : Int), ()))).1.getD (Int.toNat (0 : Int)) (0 : Int)) (1 : Int)) == (1 : Int))), ((Vx.orI Go.IntKind.u64 (Vx.andI Go.IntKind.u64 ((f72 (a0.2.1, ((Go.IntKind.wrap Go.IntKind.i64 ((2 : Int) - (Go.IntKind.wrap Go.IntKind.i64 (a2 - a0.2.2.1)))), ()))).1.getD (Int.toNat (0 : Int)) (0 : Int)) (3 : Int)) (1 : Int)), ()))))).1) then
  (bif (p80 ((f111 ((f72 (a0.2.1, ((Go.IntKind.wrap Go.IntKind.i64 ((2 : Int) - (Go.IntKind.wrap Go.IntKind.i64 (a2 - a0.2.2.1)))), ()))).1, ((2 : Int), ()))).1, (((1 : Int) :: []), ()))) then
  (some ((f80 ((f111 ((f72 (a0.2.1, ((Go.IntKind.wrap Go.IntKind.i64 ((2 : Int) - (Go.IntKind.wrap Go.IntKind.i64 (a2 - a0.2.2.1)))), ()))).1, ((2 : Int), ()))).1, (((1 : Int) :: []), ()))).1, (((Vx.orI Go.IntKind.u64 (Vx.andI Go.IntKind.u64 ((f72 (a0.2.1, ((Go.IntKind.wrap Go.IntKind.i64 ((2 : Int) - (Go.IntKind.wrap Go.IntKind.i64 (a2 - a0.2.2.1)))), ()))).1.getD (Int.toNat (0 : Int)) (0 : Int)) (3 : Int)) (1 : Int)) != (0 : Int)), ())))
  else none)
  else some ((f111 ((f72 (a0.2.1, ((Go.IntKind.wrap Go.IntKind.i64 ((2 : Int) - (Go.IntKind.wrap Go.IntKind.i64 (a2 - a0.2.2.1)))), ()))).1, ((2 : Int), ()))).1, (((Vx.orI Go.IntKind.u64 (Vx.andI Go.IntKind.u64 ((f72 (a0.2.1, ((Go.IntKind.wrap Go.IntKind.i64 ((2 : Int) - (Go.IntKind.wrap Go.IntKind.i64 (a2 - a0.2.2.1)))), ()))).1.getD (Int.toNat (0 : Int)) (0 : Int)) (3 : Int)) (1 : Int)) != (0 : Int)), ())))
  else none)
  else none)
  else none)
  else bif (p111 ((f72 (a0.2.1, ((Go.IntKind.wrap Go.IntKind.i64 ((2 : Int) - (Go.IntKind.wrap Go.IntKind.i64 (a2 - a0.2.2.1)))), ()))).1, ((2 : Int), ()))) then
  (bif ((decide ((0 : Int) < ((f111 ((f72 (a0.2.1, ((Go.IntKind.wrap Go.IntKind.i64 ((2 : Int) - (Go.IntKind.wrap Go.IntKind.i64 (a2 - a0.2.2.1)))), ()))).1, ((2 : Int), ()))).1.length : Int))) || (!(decide (((f111 ((f72 (a0.2.1, ((Go.IntKind.wrap Go.IntKind.i64 ((2 : Int) - (Go.IntKind.wrap Go.IntKind.i64 (a2 - a0.2.2.1)))), ()))).1, ((2 : Int), ()))).1.length : Int) > (0 : Int))))) then
  (bif ((p130 (a1, (a0.1, (((decide (((f111 ((f72 (a0.2.1, ((Go.IntKind.wrap Go.IntKind.i64 ((2 : Int) - (Go.IntKind.wrap Go.IntKind.i64 (a2 - a0.2.2.1)))), ()))).1, ((2 : Int), ()))).1.length : Int) > (0 : Int))) && ((Vx.andI Go.IntKind.u64 ((f111 ((f72 (a0.2.1, ((Go.IntKind.wrap Go.IntKind.i64 ((2 : Int) - (Go.IntKind.wrap Go.IntKind.i64 (a2 - a0.2.2.1)))), ()))).1, ((2 : Int), ()))).1.getD (Int.toNat (0 : Int)) (0 : Int)) (1 : Int)) == (1 : Int))), ((Vx.andI Go.IntKind.u64 ((f72 (a0.2.1, ((Go.IntKind.wrap Go.IntKind.i64 ((2 : Int) - (Go.IntKind.wrap Go.IntKind.i64 (a2 - a0.2.2.1)))), ()))).1.getD (Int.toNat (0 : Int)) (0 : Int)) (3 : Int)), ()))))) || (!(bif ((Vx.andI Go.IntKind.u64 ((f72 (a0.2.1, ((Go.IntKind.wrap Go.IntKind.i64 ((2 : Int) - (Go.IntKind.wrap Go.IntKind.i64 (a2 - a0.2.2.1)))), ()))).1.getD (Int.toNat (0 : Int)) (0 : Int)) (3 : Int)) == (0 : Int)) then false else true))) then
  (bif (((Vx.andI Go.IntKind.u64 ((f72 (a0.2.1, ((Go.IntKind.wrap Go.IntKind.i64 ((2 : Int) - (Go.IntKind.wrap Go.IntKind.i64 (a2 - a0.2.2.1)))), ()))).1.getD (Int.toNat (0 : Int)) (0 : Int)) (3 : Int)) != (0 : Int)) && (f130 (a1, (a0.1, (((decide (((f111 ((f72 (a0.2.1, ((Go.IntKind.wrap Go.IntKind.i64 ((2 : Int) - (Go.IntKind.wrap Go.IntKind.i64 (a2 - a0.2.2.1)))), ()))).1, ((2 : Int), ()))).1.length : Int) > (0 : Int))) && ((Vx.andI Go.IntKind.u64 ((f111 ((f72 (a0.2.1, ((Go.IntKind.wrap Go.IntKind.i64 ((2 : Int) - (Go.IntKind.wrap Go.IntKind.i64 (a2 - a0.2.2.1)))), ()))).1, ((2 : Int), ()))).1.getD (Int.toNat (0 : Int)) (0 : Int)) (1 : Int)) == (1 : Int))), ((Vx.andI Go.IntKind.u64 ((f72 (a0.2.1, ((Go.IntKind.wrap Go.IntKind.i64 ((2 : Int) - (Go.IntKind.wrap Go.IntKind.i64 (a2 - a0.2.2.1)))), ()))).1.getD (Int.toNat (0 : Int)) (0 : Int)) (3 : Int)), ()))))).1) then
  (bif (p80 ((f111 ((f72 (a0.2.1, ((Go.IntKind.wrap Go.IntKind.i64 ((2 : Int) - (Go.IntKind.wrap Go.IntKind.i64 (a2 - a0.2.2.1)))), ()))).1, ((2 : Int), ()))).1, (((1 : Int) :: []), ()))) then
  (some ((f80 ((f111 ((f72 (a0.2.1, ((Go.IntKind.wrap Go.IntKind.i64 ((2 : Int) - (Go.IntKind.wrap Go.IntKind.i64 (a2 - a0.2.2.1)))), ()))).1, ((2 : Int), ()))).1, (((1 : Int) :: []), ()))).1, (((Vx.andI Go.IntKind.u64 ((f72 (a0.2.1, ((Go.IntKind.wrap Go.IntKind.i64 ((2 : Int) - (Go.IntKind.wrap Go.IntKind.i64 (a2 - a0.2.2.1)))), ()))).1.getD (Int.toNat (0 : Int)) (0 : Int)) (3 : Int)) != (0 : Int)), ())))
  else none)
  else some ((f111 ((f72 (a0.2.1, ((Go.IntKind.wrap Go.IntKind.i64 ((2 : Int) - (Go.IntKind.wrap Go.IntKind.i64 (a2 - a0.2.2.1)))), ()))).1, ((2 : Int), ()))).1, (((Vx.andI Go.IntKind.u64 ((f72 (a0.2.1, ((Go.IntKind.wrap Go.IntKind.i64 ((2 : Int) - (Go.IntKind.wrap Go.IntKind.i64 (a2 - a0.2.2.1)))), ()))).1.getD (Int.toNat (0 : Int)) (0 : Int)) (3 : Int)) != (0 : Int)), ())))
  else none)
  else none)
  else none)
  else none)
  else bif a0.2.2.2.1 then
  (bif (p111 ((f72 (a0.2.1, ((Go.IntKind.wrap Go.IntKind.i64 ((2 : Int) - (Go.IntKind.wrap Go.IntKind.i64 (a2 - a0.2.2.1)))), ()))).1, ((2 : Int), ()))) then
  (bif ((decide ((0 : Int) < ((f111 ((f72 (a0.2.1, ((Go.IntKind.wrap Go.IntKind.i64 ((2 : Int) - (Go.IntKind.wrap Go.IntKind.i64 (a2 - a0.2.2.1)))), ()))).1, ((2 : Int), ()))).1.length : Int))) || (!(decide (((f111 ((f72 (a0.2.1, ((Go.IntKind.wrap Go.IntKind.i64 ((2 : Int) - (Go.IntKind.wrap Go.IntKind.i64 (a2 - a0.2.2.1)))), ()))).1, ((2 : Int), ()))).1.length : Int) > (0 : Int))))) then
  (bif ((p130 (a1, (a0.1, (((decide (((f111 ((f72 (a0.2.1, ((Go.IntKind.wrap Go.IntKind.i64 ((2 : Int) - (Go.IntKind.wrap Go.IntKind.i64 (a2 - a0.2.2.1)))), ()))).1, ((2 : Int), ()))).1.length : Int) > (0 : Int))) && ((Vx.andI Go.IntKind.u64 ((f111 ((f72 (a0.2.1, ((Go.IntKind.wrap Go.IntKind.i64 ((2 : Int) - (Go.IntKind.wrap Go.IntKind.i64 (a2 - a0.2.2.1)))), ()))).1, ((2 : Int), ()))).1.getD (Int.toNat (0 : Int)) (0 : Int)) (1 : Int)) == (1 : Int))), ((Vx.orI Go.IntKind.u64 (0 : Int) (1 : Int)), ()))))) || false) then
  (bif (f130 (a1, (a0.1, (((decide (((f111 ((f72 (a0.2.1, ((Go.IntKind.wrap Go.IntKind.i64 ((2 : Int) - (Go.IntKind.wrap Go.IntKind.i64 (a2 - a0.2.2.1)))), ()))).1, ((2 : Int), ()))).1.length : Int) > (0 : Int))) && ((Vx.andI Go.IntKind.u64 ((f111 ((f72 (a0.2.1, ((Go.IntKind.wrap Go.IntKind.i64 ((2 : Int) - (Go.IntKind.wrap Go.IntKind.i64 (a2 - a0.2.2.1)))), ()))).1, ((2 : Int), ()))).1.getD (Int.toNat (0 : Int)) (0 : Int)) (1 : Int)) == (1 : Int))), ((Vx.orI Go.IntKind.u64 (0 : Int) (1 : Int)), ()))))).1 then
  (bif (p80 ((f111 ((f72 (a0.2.1, ((Go.IntKind.wrap Go.IntKind.i64 ((2 : Int) - (Go.IntKind.wrap Go.IntKind.i64 (a2 - a0.2.2.1)))), ()))).1, ((2 : Int), ()))).1, (((1 : Int) :: []), ()))) then
  (some ((f80 ((f111 ((f72 (a0.2.1, ((Go.IntKind.wrap Go.IntKind.i64 ((2 : Int) - (Go.IntKind.wrap Go.IntKind.i64 (a2 - a0.2.2.1)))), ()))).1, ((2 : Int), ()))).1, (((1 : Int) :: []), ()))).1, (true, ())))
  else none)
  else some ((f111 ((f72 (a0.2.1, ((Go.IntKind.wrap Go.IntKind.i64 ((2 : Int) - (Go.IntKind.wrap Go.IntKind.i64 (a2 - a0.2.2.1)))), ()))).1, ((2 : Int), ()))).1, (true, ())))
  else none)
  else none)
  else none)
  else bif (p111 ((f72 (a0.2.1, ((Go.IntKind.wrap Go.IntKind.i64 ((2 : Int) - (Go.IntKind.wrap Go.IntKind.i64 (a2 - a0.2.2.1)))), ()))).1, ((2 : Int), ()))) then
  (bif ((decide ((0 : Int) < ((f111 ((f72 (a0.2.1, ((Go.IntKind.wrap Go.IntKind.i64 ((2 : Int) - (Go.IntKind.wrap Go.IntKind.i64 (a2 - a0.2.2.1)))), ()))).1, ((2 : Int), ()))).1.length : Int))) || (!(decide (((f111 ((f72 (a0.2.1, ((Go.IntKind.wrap Go.IntKind.i64 ((2 : Int) - (Go.IntKind.wrap Go.IntKind.i64 (a2 - a0.2.2.1)))), ()))).1, ((2 : Int), ()))).1.length : Int) > (0 : Int))))) then
  (bif ((p130 (a1, (a0.1, (((decide (((f111 ((f72 (a0.2.1, ((Go.IntKind.wrap Go.IntKind.i64 ((2 : Int) - (Go.IntKind.wrap Go.IntKind.i64 (a2 - a0.2.2.1)))), ()))).1, ((2 : Int), ()))).1.length : Int) > (0 : Int))) && ((Vx.andI Go.IntKind.u64 ((f111 ((f72 (a0.2.1, ((Go.IntKind.wrap Go.IntKind.i64 ((2 : Int) - (Go.IntKind.wrap Go.IntKind.i64 (a2 - a0.2.2.1)))), ()))).1, ((2 : Int), ()))).1.getD (Int.toNat (0 : Int)) (0 : Int)) (1 : Int)) == (1 : Int))), ((0 : Int), ()))))) || true) then
  (some ((f111 ((f72 (a0.2.1, ((Go.IntKind.wrap Go.IntKind.i64 ((2 : Int) - (Go.IntKind.wrap Go.IntKind.i64 (a2 - a0.2.2.1)))), ()))).1, ((2 : Int), ()))).1, (false, ())))
  else none)
  else none)
  else none)
  else none
theorem r120 (p129 : DenS I129 → Bool) (f129 : DenS I129 → DenS O129) (p72 : DenS I72 → Bool) (f72 : DenS I72 → DenS O72) (p111 : DenS I111 → Bool) (f111 : DenS I111 → DenS O111) (p130 : DenS I130 → Bool) (f130 : DenS I130 → DenS O130) (p80 : DenS I80 → Bool) (f80 : DenS I80 → DenS O80) (a0 : Den (.pair (.bool) (.pair (.slice (.int .u64)) (.pair (.int .i64) (.pair (.bool) (.unit)))))) (a1 : Den (.int .i64)) (a2 : Den (.int .i64)) :
    run { P := Go.Proofs.Tryd.prog, sums := [(129, ⟨I129, O129, p129, f129⟩), (72, ⟨I72, O72, p72, f72⟩), (111, ⟨I111, O111, p111, f111⟩), (130, ⟨I130, O130, p130, f130⟩), (80, ⟨I80, O80, p80, f80⟩)], loops := [], globs := G1 } 9 120 Go.Proofs.Tryd.f120 I120 O120 (a0, a1, a2, ()) = t120 p129 f129 p72 f72 p111 f111 p130 f130 p80 f80 a0 a1 a2 := by kernel_rfl
noncomputable def T120 (x : DenS I120) : Option (DenS O120) := t120 S129.pre S129.F S72.pre S72.F S111.pre S111.F S130.pre S130.F S80.pre S80.F x.1 x.2.1 x.2.2.1
noncomputable def C120 : Cfg := { P := Go.Proofs.Tryd.prog, sums := [(129, S129), (72, S72), (111, S111), (130, S130), (80, S80)], loops := [], globs := G1 }
noncomputable def S120 : Sum := sumOf I120 O120 T120 (DenS.dflt O120)
theorem S120_sound : Sound Go.Proofs.Tryd.prog G1 120 S120 :=
  fn_sound C120 9 120 Go.Proofs.Tryd.f120 mixedOk (by kernel_rfl) (by kernel_rfl) (by kernel_rfl) ⟨S129_sound, ⟨S72_sound, ⟨S111_sound, ⟨S130_sound, ⟨S80_sound, trivial⟩⟩⟩⟩⟩ trivial I120 O120 T120 _ fun x => r120 S129.pre S129.F S72.pre S72.F S111.pre S111.F S130.pre S130.F S80.pre S80.F x.1 x.2.1 x.2.2.1
/-- vernier/format.Infinity -/
abbrev I60 : Sig := [(false, .int .i64), (false, .bool)]
abbrev O60 : Sig := [(false, .int .u64), (false, .int .i64)]
noncomputable def t60 (p78 : DenS I78 → Bool) (f78 : DenS I78 → DenS O78) (p22 : DenS I22 → Bool) (f22 : DenS I22 → DenS O22) (p54 : DenS I54 → Bool) (f54 : DenS I54 → DenS O54) (p55 : DenS I55 → Bool) (f55 : DenS I55 → DenS O55) (a0 : Den (.int .i64)) (a1 : Den (.bool)) : Option (DenS O60) :=
  bif (p22 (a0, ())) then
  (bif ((f22 (a0, ())).2.1 != (0 : Int)) then
  (some ((0 : Int), (f22 (a0, ())).2))
  else bif (p54 ((Go.IntKind.wrap Go.IntKind.i64 ((f22 (a0, ())).1.1 - (f22 (a0, ())).1.2.1)), ())) then
  (bif (p78 ((f22 (a0, ())).1, ())) then
  (bif (p78 ((f22 (a0, ())).1, ())) then
  (bif (p55 ((f22 (a0, ())).1, (a1, ((Go.IntKind.wrap Go.IntKind.u64 ((f54 ((Go.IntKind.wrap Go.IntKind.i64 ((f22 (a0, ())).1.1 - (f22 (a0, ())).1.2.1)), ())).1 - (f78 ((f22 (a0, ())).1, ())).1)), (f78 ((f22 (a0, ())).1, ())))))) then
  (some ((f55 ((f22 (a0, ())).1, (a1, ((Go.IntKind.wrap Go.IntKind.u64 ((f54 ((Go.IntKind.wrap Go.IntKind.i64 ((f22 (a0, ())).1.1 - (f22 (a0, ())).1.2.1)), ())).1 - (f78 ((f22 (a0, ())).1, ())).1)), (f78 ((f22 (a0, ())).1, ())))))).1, ((0 : Int), ())))
  else none)
  else none)
  else none)
  else none)
  else none
theorem r60 (p78 : DenS I78 → Bool) (f78 : DenS I78 → DenS O78) (p22 : DenS I22 → Bool) (f22 : DenS I22 → DenS O22) (p54 : DenS I54 → Bool) (f54 : DenS I54 → DenS O54) (p55 : DenS I55 → Bool) (f55 : DenS I55 → DenS O55) (a0 : Den (.int .i64)) (a1 : Den (.bool)) :
    run { P := Go.Proofs.Tryd.prog, sums := [(78, ⟨I78, O78, p78, f78⟩), (22, ⟨I22, O22, p22, f22⟩), (54, ⟨I54, O54, p54, f54⟩), (55, ⟨I55, O55, p55, f55⟩)], loops := [], globs := G1 } 9 60 Go.Proofs.Tryd.f60 I60 O60 (a0, a1, ()) = t60 p78 f78 p22 f22 p54 f54 p55 f55 a0 a1 := by kernel_rfl
noncomputable def T60 (x : DenS I60) : Option (DenS O60) := t60 S78.pre S78.F S22.pre S22.F S54.pre S54.F S55.pre S55.F x.1 x.2.1
noncomputable def C60 : Cfg := { P := Go.Proofs.Tryd.prog, sums := [(78, S78), (22, S22), (54, S54), (55, S55)], loops := [], globs := G1 }
noncomputable def S60 : Sum := sumOf I60 O60 T60 (DenS.dflt O60)
theorem S60_sound : Sound Go.Proofs.Tryd.prog G1 60 S60 :=
  fn_sound C60 9 60 Go.Proofs.Tryd.f60 mixedOk (by kernel_rfl) (by kernel_rfl) (by kernel_rfl) ⟨S78_sound.more G01, ⟨S22_sound.more G01, ⟨S54_sound.more G01, ⟨S55_sound.more G01, trivial⟩⟩⟩⟩ trivial I60 O60 T60 _ fun x => r60 S78.pre S78.F S22.pre S22.F S54.pre S54.F S55.pre S55.F x.1 x.2.1
/-- vernier/format.one -/
abbrev I134 : Sig := [(true, .pair (.int .i64) (.pair (.int .i64) (.pair (.int .i64) (.pair (.int .i64) (.unit)))))]
abbrev O134 : Sig := [(false, .int .u64)]
noncomputable def t134 (a0 : Den (.pair (.int .i64) (.pair (.int .i64) (.pair (.int .i64) (.pair (.int .i64) (.unit)))))) : Option (DenS O134) :=
  some ((1 : Int), ())
theorem r134 (a0 : Den (.pair (.int .i64) (.pair (.int .i64) (.pair (.int .i64) (.pair (.int .i64) (.unit)))))) :
    run { P := Go.Proofs.Tryd.prog, sums := [], loops := [], globs := G1 } 9 134 Go.Proofs.Tryd.f134 I134 O134 (a0, ()) = t134 a0 := by kernel_rfl
noncomputable def T134 (x : DenS I134) : Option (DenS O134) := t134 x.1
noncomputable def C134 : Cfg := { P := Go.Proofs.Tryd.prog, sums := [], loops := [], globs := G1 }
noncomputable def S134 : Sum := sumOf I134 O134 T134 (DenS.dflt O134)
theorem S134_sound : Sound Go.Proofs.Tryd.prog G1 134 S134 :=
  fn_sound C134 9 134 Go.Proofs.Tryd.f134 mixedOk (by kernel_rfl) (by kernel_rfl) (by kernel_rfl) trivial trivial I134 O134 T134 _ fun x => r134 x.1
/-- vernier/format.fraction -/
abbrev I135 : Sig := [(true, .pair (.int .i64) (.pair (.int .i64) (.pair (.int .i64) (.pair (.int .i64) (.unit)))))]
abbrev O135 : Sig := [(false, .int .u64)]
noncomputable def t135 (p54 : DenS I54 → Bool) (f54 : DenS I54 → DenS O54) (a0 : Den (.pair (.int .i64) (.pair (.int .i64) (.pair (.int .i64) (.pair (.int .i64) (.unit)))))) : Option (DenS O135) :=
  bif (p54 ((Go.IntKind.wrap Go.IntKind.i64 (a0.2.1 - (1 : Int))), ())) then
  (some (f54 ((Go.IntKind.wrap Go.IntKind.i64 (a0.2.1 - (1 : Int))), ())))
  else none
theorem r135 (p54 : DenS I54 → Bool) (f54 : DenS I54 → DenS O54) (a0 : Den (.pair (.int .i64) (.pair (.int .i64) (.pair (.int .i64) (.pair (.int .i64) (.unit)))))) :
    run { P := Go.Proofs.Tryd.prog, sums := [(54, ⟨I54, O54, p54, f54⟩)], loops := [], globs := G1 } 9 135 Go.Proofs.Tryd.f135 I135 O135 (a0, ()) = t135 p54 f54 a0 := by kernel_rfl
noncomputable def T135 (x : DenS I135) : Option (DenS O135) := t135 S54.pre S54.F x.1
noncomputable def C135 : Cfg := { P := Go.Proofs.Tryd.prog, sums := [(54, S54)], loops := [], globs := G1 }
noncomputable def S135 : Sum := sumOf I135 O135 T135 (DenS.dflt O135)
theorem S135_sound : Sound Go.Proofs.Tryd.prog G1 135 S135 :=
  fn_sound C135 9 135 Go.Proofs.Tryd.f135 mixedOk (by kernel_rfl) (by kernel_rfl) (by kernel_rfl) ⟨S54_sound.more G01, trivial⟩ trivial I135 O135 T135 _ fun x => r135 S54.pre S54.F x.1
/-- vernier/format.Greatest -/
abbrev I128 : Sig := [(false, .int .i64), (false, .bool)]
abbrev O128 : Sig := [(false, .int .u64), (false, .int .i64)]
noncomputable def t128 (p134 : DenS I134 → Bool) (f134 : DenS I134 → DenS O134) (p135 : DenS I135 → Bool) (f135 : DenS I135 → DenS O135) (p22 : DenS I22 → Bool) (f22 : DenS I22 → DenS O22) (p54 : DenS I54 → Bool) (f54 : DenS I54 → DenS O54) (p55 : DenS I55 → Bool) (f55 : DenS I55 → DenS O55) (a0 : Den (.int .i64)) (a1 : Den (.bool)) : Option (DenS O128) :=
  bif (p22 (a0, ())) then
  (bif ((f22 (a0, ())).2.1 != (0 : Int)) then
  (some ((0 : Int), (f22 (a0, ())).2))
  else bif (p54 ((Go.IntKind.wrap Go.IntKind.i64 ((f22 (a0, ())).1.1 - (f22 (a0, ())).1.2.1)), ())) then
  (bif (p134 ((f22 (a0, ())).1, ())) then
  (bif (p135 ((f22 (a0, ())).1, ())) then
  (bif (p55 ((f22 (a0, ())).1, (a1, ((Go.IntKind.wrap Go.IntKind.u64 ((f54 ((Go.IntKind.wrap Go.IntKind.i64 ((f22 (a0, ())).1.1 - (f22 (a0, ())).1.2.1)), ())).1 - (f134 ((f22 (a0, ())).1, ())).1)), (f135 ((f22 (a0, ())).1, ())))))) then
  (some ((f55 ((f22 (a0, ())).1, (a1, ((Go.IntKind.wrap Go.IntKind.u64 ((f54 ((Go.IntKind.wrap Go.IntKind.i64 ((f22 (a0, ())).1.1 - (f22 (a0, ())).1.2.1)), ())).1 - (f134 ((f22 (a0, ())).1, ())).1)), (f135 ((f22 (a0, ())).1, ())))))).1, ((0 : Int), ())))
  else none)
  else none)
  else none)
  else none)
  else none
theorem r128 (p134 : DenS I134 → Bool) (f134 : DenS I134 → DenS O134) (p135 : DenS I135 → Bool) (f135 : DenS I135 → DenS O135) (p22 : DenS I22 → Bool) (f22 : DenS I22 → DenS O22) (p54 : DenS I54 → Bool) (f54 : DenS I54 → DenS O54) (p55 : DenS I55 → Bool) (f55 : DenS I55 → DenS O55) (a0 : Den (.int .i64)) (a1 : Den (.bool)) :
    run { P := Go.Proofs.Tryd.prog, sums := [(134, ⟨I134, O134, p134, f134⟩), (135, ⟨I135, O135, p135, f135⟩), (22, ⟨I22, O22, p22, f22⟩), (54, ⟨I54, O54, p54, f54⟩), (55, ⟨I55, O55, p55, f55⟩)], loops := [], globs := G1 } 9 128 Go.Proofs.Tryd.f128 I128 O128 (a0, a1, ()) = t128 p134 f134 p135 f135 p22 f22 p54 f54 p55 f55 a0 a1 := by kernel_rfl
noncomputable def T128 (x : DenS I128) : Option (DenS O128) := t128 S134.pre S134.F S135.pre S135.F S22.pre S22.F S54.pre S54.F S55.pre S55.F x.1 x.2.1
noncomputable def C128 : Cfg := { P := Go.Proofs.Tryd.prog, sums := [(134, S134), (135, S135), (22, S22), (54, S54), (55, S55)], loops := [], globs := G1 }
noncomputable def S128 : Sum := sumOf I128 O128 T128 (DenS.dflt O128)
theorem S128_sound : Sound Go.Proofs.Tryd.prog G1 128 S128 :=
  fn_sound C128 9 128 Go.Proofs.Tryd.f128 mixedOk (by kernel_rfl) (by kernel_rfl) (by kernel_rfl) ⟨S134_sound, ⟨S135_sound, ⟨S22_sound.more G01, ⟨S54_sound.more G01, ⟨S55_sound.more G01, trivial⟩⟩⟩⟩⟩ trivial I128 O128 T128 _ fun x => r128 S134.pre S134.F S135.pre S135.F S22.pre S22.F S54.pre S54.F S55.pre S55.F x.1 x.2.1
/-- vernier/round.beyond -/
abbrev I119 : Sig := [(false, .int .i64), (false, .int .i64), (false, .bool)]
abbrev O119 : Sig := [(false, .int .u64)]
noncomputable def t119 (p60 : DenS I60 → Bool) (f60 : DenS I60 → DenS O60) (p128 : DenS I128 → Bool) (f128 : DenS I128 → DenS O128) (a0 : Den (.int .i64)) (a1 : Den (.int .i64)) (a2 : Den (.bool)) : Option (DenS O119) :=
  bif ((((a1 == (0 : Int)) || (a1 == (1 : Int))) || ((a1 == (3 : Int)) && (!a2))) || ((a1 == (4 : Int)) && a2)) then
  (bif (p60 (a0, (a2, ()))) then
  (some ((f60 (a0, (a2, ()))).1, ()))
  else none)
  else bif (p128 (a0, (a2, ()))) then
  (some ((f128 (a0, (a2, ()))).1, ()))
  else none
theorem r119 (p60 : DenS I60 → Bool) (f60 : DenS I60 → DenS O60) (p128 : DenS I128 → Bool) (f128 : DenS I128 → DenS O128) (a0 : Den (.int .i64)) (a1 : Den (.int .i64)) (a2 : Den (.bool)) :
    run { P := Go.Proofs.Tryd.prog, sums := [(60, ⟨I60, O60, p60, f60⟩), (128, ⟨I128, O128, p128, f128⟩)], loops := [], globs := G1 } 9 119 Go.Proofs.Tryd.f119 I119 O119 (a0, a1, a2, ()) = t119 p60 f60 p128 f128 a0 a1 a2 := by kernel_rfl
noncomputable def T119 (x : DenS I119) : Option (DenS O119) := t119 S60.pre S60.F S128.pre S128.F x.1 x.2.1 x.2.2.1
noncomputable def C119 : Cfg := { P := Go.Proofs.Tryd.prog, sums := [(60, S60), (128, S128)], loops := [], globs := G1 }
noncomputable def S119 : Sum := sumOf I119 O119 T119 (DenS.dflt O119)
theorem S119_sound : Sound Go.Proofs.Tryd.prog G1 119 S119 :=
  fn_sound C119 9 119 Go.Proofs.Tryd.f119 mixedOk (by kernel_rfl) (by kernel_rfl) (by kernel_rfl) ⟨S60_sound, ⟨S128_sound, trivial⟩⟩ trivial I119 O119 T119 _ fun x => r119 S60.pre S60.F S128.pre S128.F x.1 x.2.1 x.2.2.1
/-- (vernier/round.number).tiny -/
abbrev I121 : Sig := [(true, .pair (.bool) (.pair (.slice (.int .u64)) (.pair (.int .i64) (.pair (.bool) (.unit))))), (true, .pair (.int .i64) (.pair (.int .i64) (.pair (.int .i64) (.pair (.int .i64) (.unit))))), (false, .int .i64), (false, .int .i64)]
abbrev O121 : Sig := [(false, .bool)]
noncomputable def t121 (p120 : DenS I120 → Bool) (f120 : DenS I120 → DenS O120) (p100 : DenS I100 → Bool) (f100 : DenS I100 → DenS O100) (a0 : Den (.pair (.bool) (.pair (.slice (.int .u64)) (.pair (.int .i64) (.pair (.bool) (.unit)))))) (a1 : Den (.pair (.int .i64) (.pair (.int .i64) (.pair (.int .i64) (.pair (.int .i64) (.unit)))))) (a2 : Den (.int .i64)) (a3 : Den (.int .i64)) : Option (DenS O121) :=
  bif (decide (a3 ≥ a1.2.2.1)) then
  (some (false, ()))
  else bif (p120 ((a0.1, a0.2), (a2, ((Go.IntKind.wrap Go.IntKind.i64 ((Go.IntKind.wrap Go.IntKind.i64 (a3 - a1.2.1)) + (1 : Int))), ())))) then
  (bif (p100 ((f120 ((a0.1, a0.2), (a2, ((Go.IntKind.wrap Go.IntKind.i64 ((Go.IntKind.wrap Go.IntKind.i64 (a3 - a1.2.1)) + (1 : Int))), ())))).1, ())) then
  (some ((decide ((Go.IntKind.wrap Go.IntKind.i64 ((Go.IntKind.wrap Go.IntKind.i64 (a3 - a1.2.1)) + (f100 ((f120 ((a0.1, a0.2), (a2, ((Go.IntKind.wrap Go.IntKind.i64 ((Go.IntKind.wrap Go.IntKind.i64 (a3 - a1.2.1)) + (1 : Int))), ())))).1, ())).1)) < a1.2.2.1)), ()))
  else none)
  else none
theorem r121 (p120 : DenS I120 → Bool) (f120 : DenS I120 → DenS O120) (p100 : DenS I100 → Bool) (f100 : DenS I100 → DenS O100) (a0 : Den (.pair (.bool) (.pair (.slice (.int .u64)) (.pair (.int .i64) (.pair (.bool) (.unit)))))) (a1 : Den (.pair (.int .i64) (.pair (.int .i64) (.pair (.int .i64) (.pair (.int .i64) (.unit)))))) (a2 : Den (.int .i64)) (a3 : Den (.int .i64)) :
    run { P := Go.Proofs.Tryd.prog, sums := [(120, ⟨I120, O120, p120, f120⟩), (100, ⟨I100, O100, p100, f100⟩)], loops := [], globs := G1 } 9 121 Go.Proofs.Tryd.f121 I121 O121 (a0, a1, a2, a3, ()) = t121 p120 f120 p100 f100 a0 a1 a2 a3 := by kernel_rfl
noncomputable def T121 (x : DenS I121) : Option (DenS O121) := t121 S120.pre S120.F S100.pre S100.F x.1 x.2.1 x.2.2.1 x.2.2.2.1
noncomputable def C121 : Cfg := { P := Go.Proofs.Tryd.prog, sums := [(120, S120), (100, S100)], loops := [], globs := G1 }
noncomputable def S121 : Sum := sumOf I121 O121 T121 (DenS.dflt O121)
theorem S121_sound : Sound Go.Proofs.Tryd.prog G1 121 S121 :=
  fn_sound C121 9 121 Go.Proofs.Tryd.f121 mixedOk (by kernel_rfl) (by kernel_rfl) (by kernel_rfl) ⟨S120_sound, ⟨S100_sound, trivial⟩⟩ trivial I121 O121 T121 _ fun x => r121 S120.pre S120.F S100.pre S100.F x.1 x.2.1 x.2.2.1 x.2.2.2.1
/-- (vernier/round.number).into -/
abbrev I98 : Sig := [(true, .pair (.bool) (.pair (.slice (.int .u64)) (.pair (.int .i64) (.pair (.bool) (.unit))))), (false, .int .i64), (true, .pair (.int .i64) (.pair (.int .i64) (.pair (.int .i64) (.pair (.int .i64) (.unit))))), (false, .int .i64)]
abbrev O98 : Sig := [(false, .int .u64), (false, .int .i64)]
noncomputable def t98 (p118 : DenS I118 → Bool) (f118 : DenS I118 → DenS O118) (p120 : DenS I120 → Bool) (f120 : DenS I120 → DenS O120) (p100 : DenS I100 → Bool) (f100 : DenS I100 → DenS O100) (p119 : DenS I119 → Bool) (f119 : DenS I119 → DenS O119) (p121 : DenS I121 → Bool) (f121 : DenS I121 → DenS O121) (a0 : Den (.pair (.bool) (.pair (.slice (.int .u64)) (.pair (.int .i64) (.pair (.bool) (.unit)))))) (a1 : Den (.int .i64)) (a2 : Den (.pair (.int .i64) (.pair (.int .i64) (.pair (.int .i64) (.pair (.int .i64) (.unit)))))) (a3 : Den (.int .i64)) : Option (DenS O98) :=
  bif (p118 ((a0.1, a0.2), ())) then
  (bif (decide ((f118 ((a0.1, a0.2), ())).1 > a2.2.2.2.1)) then
  (bif (p119 (a1, (a3, (a0.1, ())))) then
  (some ((f119 (a1, (a3, (a0.1, ())))).1, ((20 : Int), ())))
  else none)
  else bif (p120 ((a0.1, a0.2), (a3, ((Go.IntKind.wrap Go.IntKind.i64 ((Go.IntKind.wrap Go.IntKind.i64 ((if (a2.2.2.1 > (f118 ((a0.1, a0.2), ())).1) then a2.2.2.1 else (f118 ((a0.1, a0.2), ())).1) - a2.2.1)) + (1 : Int))), ())))) then
  (bif (decide ((0 : Int) ≤ (Go.IntKind.wrap Go.IntKind.i64 (a2.2.1 - (1 : Int))))) then
  (bif (decide (((f120 ((a0.1, a0.2), (a3, ((Go.IntKind.wrap Go.IntKind.i64 ((Go.IntKind.wrap Go.IntKind.i64 ((if (a2.2.2.1 > (f118 ((a0.1, a0.2), ())).1) then a2.2.2.1 else (f118 ((a0.1, a0.2), ())).1) - a2.2.1)) + (1 : Int))), ())))).1.length : Int) > (0 : Int))) then
  (bif (decide ((0 : Int) < ((f120 ((a0.1, a0.2), (a3, ((Go.IntKind.wrap Go.IntKind.i64 ((Go.IntKind.wrap Go.IntKind.i64 ((if (a2.2.2.1 > (f118 ((a0.1, a0.2), ())).1) then a2.2.2.1 else (f118 ((a0.1, a0.2), ())).1) - a2.2.1)) + (1 : Int))), ())))).1.length : Int))) then
  (bif (p100 ((f120 ((a0.1, a0.2), (a3, ((Go.IntKind.wrap Go.IntKind.i64 ((Go.IntKind.wrap Go.IntKind.i64 ((if (a2.2.2.1 > (f118 ((a0.1, a0.2), ())).1) then a2.2.2.1 else (f118 ((a0.1, a0.2), ())).1) - a2.2.1)) + (1 : Int))), ())))).1, ())) then
  (bif (decide ((Go.IntKind.wrap Go.IntKind.i64 ((Go.IntKind.wrap Go.IntKind.i64 ((Go.IntKind.wrap Go.IntKind.i64 ((Go.IntKind.wrap Go.IntKind.i64 ((if (a2.2.2.1 > (f118 ((a0.1, a0.2), ())).1) then a2.2.2.1 else (f118 ((a0.1, a0.2), ())).1) - a2.2.1)) + (1 : Int))) + (f100 ((f120 ((a0.1, a0.2), (a3, ((Go.IntKind.wrap Go.IntKind.i64 ((Go.IntKind.wrap Go.IntKind.i64 ((if (a2.2.2.1 > (f118 ((a0.1, a0.2), ())).1) then a2.2.2.1 else (f118 ((a0.1, a0.2), ())).1) - a2.2.1)) + (1 : Int))), ())))).1, ())).1)) - (1 : Int))) > a2.2.2.2.1)) then
  (bif (p119 (a1, (a3, (a0.1, ())))) then
  (some ((f119 (a1, (a3, (a0.1, ())))).1, ((20 : Int), ())))
  else none)
  else bif a0.1 then
  (bif (decide ((0 : Int) ≤ (Go.IntKind.wrap Go.IntKind.i64 (a2.1 - (1 : Int))))) then
  (bif (!(f120 ((a0.1, a0.2), (a3, ((Go.IntKind.wrap Go.IntKind.i64 ((Go.IntKind.wrap Go.IntKind.i64 ((if (a2.2.2.1 > (f118 ((a0.1, a0.2), ())).1) then a2.2.2.1 else (f118 ((a0.1, a0.2), ())).1) - a2.2.1)) + (1 : Int))), ())))).2.1) then
  (some ((Vx.orI Go.IntKind.u64 (Go.IntKind.wrap Go.IntKind.u64 ((Vx.shlI Go.IntKind.u64 (Go.IntKind.wrap Go.IntKind.u64 (Go.IntKind.wrap Go.IntKind.i64 ((Go.IntKind.wrap Go.IntKind.i64 ((Go.IntKind.wrap Go.IntKind.i64 ((if (a2.2.2.1 > (f118 ((a0.1, a0.2), ())).1) then a2.2.2.1 else (f118 ((a0.1, a0.2), ())).1) - a2.2.1)) + (1 : Int))) - (Go.IntKind.wrap Go.IntKind.i64 ((Go.IntKind.wrap Go.IntKind.i64 (a2.2.2.1 - a2.2.1)) + (1 : Int)))))) (Go.IntKind.wrap Go.IntKind.i64 (a2.2.1 - (1 : Int)))) + ((f120 ((a0.1, a0.2), (a3, ((Go.IntKind.wrap Go.IntKind.i64 ((Go.IntKind.wrap Go.IntKind.i64 ((if (a2.2.2.1 > (f118 ((a0.1, a0.2), ())).1) then a2.2.2.1 else (f118 ((a0.1, a0.2), ())).1) - a2.2.1)) + (1 : Int))), ())))).1.getD (Int.toNat (0 : Int)) (0 : Int)))) (Vx.shlI Go.IntKind.u64 (1 : Int) (Go.IntKind.wrap Go.IntKind.i64 (a2.1 - (1 : Int))))), ((0 : Int), ())))
  else bif (p121 ((a0.1, a0.2), ((a2.1, a2.2), (a3, (f118 ((a0.1, a0.2), ())))))) then
  (bif (f121 ((a0.1, a0.2), ((a2.1, a2.2), (a3, (f118 ((a0.1, a0.2), ())))))).1 then
  (some ((Vx.orI Go.IntKind.u64 (Go.IntKind.wrap Go.IntKind.u64 ((Vx.shlI Go.IntKind.u64 (Go.IntKind.wrap Go.IntKind.u64 (Go.IntKind.wrap Go.IntKind.i64 ((Go.IntKind.wrap Go.IntKind.i64 ((Go.IntKind.wrap Go.IntKind.i64 ((if (a2.2.2.1 > (f118 ((a0.1, a0.2), ())).1) then a2.2.2.1 else (f118 ((a0.1, a0.2), ())).1) - a2.2.1)) + (1 : Int))) - (Go.IntKind.wrap Go.IntKind.i64 ((Go.IntKind.wrap Go.IntKind.i64 (a2.2.2.1 - a2.2.1)) + (1 : Int)))))) (Go.IntKind.wrap Go.IntKind.i64 (a2.2.1 - (1 : Int)))) + ((f120 ((a0.1, a0.2), (a3, ((Go.IntKind.wrap Go.IntKind.i64 ((Go.IntKind.wrap Go.IntKind.i64 ((if (a2.2.2.1 > (f118 ((a0.1, a0.2), ())).1) then a2.2.2.1 else (f118 ((a0.1, a0.2), ())).1) - a2.2.1)) + (1 : Int))), ())))).1.getD (Int.toNat (0 : Int)) (0 : Int)))) (Vx.shlI Go.IntKind.u64 (1 : Int) (Go.IntKind.wrap Go.IntKind.i64 (a2.1 - (1 : Int))))), ((24 : Int), ())))
  else some ((Vx.orI Go.IntKind.u64 (Go.IntKind.wrap Go.IntKind.u64 ((Vx.shlI Go.IntKind.u64 (Go.IntKind.wrap Go.IntKind.u64 (Go.IntKind.wrap Go.IntKind.i64 ((Go.IntKind.wrap Go.IntKind.i64 ((Go.IntKind.wrap Go.IntKind.i64 ((if (a2.2.2.1 > (f118 ((a0.1, a0.2), ())).1) then a2.2.2.1 else (f118 ((a0.1, a0.2), ())).1) - a2.2.1)) + (1 : Int))) - (Go.IntKind.wrap Go.IntKind.i64 ((Go.IntKind.wrap Go.IntKind.i64 (a2.2.2.1 - a2.2.1)) + (1 : Int)))))) (Go.IntKind.wrap Go.IntKind.i64 (a2.2.1 - (1 : Int)))) + ((f120 ((a0.1, a0.2), (a3, ((Go.IntKind.wrap Go.IntKind.i64 ((Go.IntKind.wrap Go.IntKind.i64 ((if (a2.2.2.1 > (f118 ((a0.1, a0.2), ())).1) then a2.2.2.1 else (f118 ((a0.1, a0.2), ())).1) - a2.2.1)) + (1 : Int))), ())))).1.getD (Int.toNat (0 : Int)) (0 : Int)))) (Vx.shlI Go.IntKind.u64 (1 : Int) (Go.IntKind.wrap Go.IntKind.i64 (a2.1 - (1 : Int))))), ((16 : Int), ())))
  else none)
  else none)
  else bif (!(f120 ((a0.1, a0.2), (a3, ((Go.IntKind.wrap Go.IntKind.i64 ((Go.IntKind.wrap Go.IntKind.i64 ((if (a2.2.2.1 > (f118 ((a0.1, a0.2), ())).1) then a2.2.2.1 else (f118 ((a0.1, a0.2), ())).1) - a2.2.1)) + (1 : Int))), ())))).2.1) then
  (some ((Go.IntKind.wrap Go.IntKind.u64 ((Vx.shlI Go.IntKind.u64 (Go.IntKind.wrap Go.IntKind.u64 (Go.IntKind.wrap Go.IntKind.i64 ((Go.IntKind.wrap Go.IntKind.i64 ((Go.IntKind.wrap Go.IntKind.i64 ((if (a2.2.2.1 > (f118 ((a0.1, a0.2), ())).1) then a2.2.2.1 else (f118 ((a0.1, a0.2), ())).1) - a2.2.1)) + (1 : Int))) - (Go.IntKind.wrap Go.IntKind.i64 ((Go.IntKind.wrap Go.IntKind.i64 (a2.2.2.1 - a2.2.1)) + (1 : Int)))))) (Go.IntKind.wrap Go.IntKind.i64 (a2.2.1 - (1 : Int)))) + ((f120 ((a0.1, a0.2), (a3, ((Go.IntKind.wrap Go.IntKind.i64 ((Go.IntKind.wrap Go.IntKind.i64 ((if (a2.2.2.1 > (f118 ((a0.1, a0.2), ())).1) then a2.2.2.1 else (f118 ((a0.1, a0.2), ())).1) - a2.2.1)) + (1 : Int))), ())))).1.getD (Int.toNat (0 : Int)) (0 : Int)))), ((0 : Int), ())))
  else bif (p121 ((a0.1, a0.2), ((a2.1, a2.2), (a3, (f118 ((a0.1, a0.2), ())))))) then
  (bif (f121 ((a0.1, a0.2), ((a2.1, a2.2), (a3, (f118 ((a0.1, a0.2), ())))))).1 then
  (some ((Go.IntKind.wrap Go.IntKind.u64 ((Vx.shlI Go.IntKind.u64 (Go.IntKind.wrap Go.IntKind.u64 (Go.IntKind.wrap Go.IntKind.i64 ((Go.IntKind.wrap Go.IntKind.i64 ((Go.IntKind.wrap Go.IntKind.i64 ((if (a2.2.2.1 > (f118 ((a0.1, a0.2), ())).1) then a2.2.2.1 else (f118 ((a0.1, a0.2), ())).1) - a2.2.1)) + (1 : Int))) - (Go.IntKind.wrap Go.IntKind.i64 ((Go.IntKind.wrap Go.IntKind.i64 (a2.2.2.1 - a2.2.1)) + (1 : Int)))))) (Go.IntKind.wrap Go.IntKind.i64 (a2.2.1 - (1 : Int)))) + ((f120 ((a0.1, a0.2), (a3, ((Go.IntKind.wrap Go.IntKind.i64 ((Go.IntKind.wrap Go.IntKind.i64 ((if (a2.2.2.1 > (f118 ((a0.1, a0.2), ())).1) then a2.2.2.1 else (f118 ((a0.1, a0.2), ())).1) - a2.2.1)) + (1 : Int))), ())))).1.getD (Int.toNat (0 : Int)) (0 : Int)))), ((24 : Int), ())))
  else some ((Go.IntKind.wrap Go.IntKind.u64 ((Vx.shlI Go.IntKind.u64 (Go.IntKind.wrap Go.IntKind.u64 (Go.IntKind.wrap Go.IntKind.i64 ((Go.IntKind.wrap Go.IntKind.i64 ((Go.IntKind.wrap Go.IntKind.i64 ((if (a2.2.2.1 > (f118 ((a0.1, a0.2), ())).1) then a2.2.2.1 else (f118 ((a0.1, a0.2), ())).1) - a2.2.1)) + (1 : Int))) - (Go.IntKind.wrap Go.IntKind.i64 ((Go.IntKind.wrap Go.IntKind.i64 (a2.2.2.1 - a2.2.1)) + (1 : Int)))))) (Go.IntKind.wrap Go.IntKind.i64 (a2.2.1 - (1 : Int)))) + ((f120 ((a0.1, a0.2), (a3, ((Go.IntKind.wrap Go.IntKind.i64 ((Go.IntKind.wrap Go.IntKind.i64 ((if (a2.2.2.1 > (f118 ((a0.1, a0.2), ())).1) then a2.2.2.1 else (f118 ((a0.1, a0.2), ())).1) - a2.2.1)) + (1 : Int))), ())))).1.getD (Int.toNat (0 : Int)) (0 : Int)))), ((16 : Int), ())))
  else none)
  else none)
  else none)
  else bif (p100 ((f120 ((a0.1, a0.2), (a3, ((Go.IntKind.wrap Go.IntKind.i64 ((Go.IntKind.wrap Go.IntKind.i64 ((if (a2.2.2.1 > (f118 ((a0.1, a0.2), ())).1) then a2.2.2.1 else (f118 ((a0.1, a0.2), ())).1) - a2.2.1)) + (1 : Int))), ())))).1, ())) then
  (bif (decide ((Go.IntKind.wrap Go.IntKind.i64 ((Go.IntKind.wrap Go.IntKind.i64 ((Go.IntKind.wrap Go.IntKind.i64 ((Go.IntKind.wrap Go.IntKind.i64 ((if (a2.2.2.1 > (f118 ((a0.1, a0.2), ())).1) then a2.2.2.1 else (f118 ((a0.1, a0.2), ())).1) - a2.2.1)) + (1 : Int))) + (f100 ((f120 ((a0.1, a0.2), (a3, ((Go.IntKind.wrap Go.IntKind.i64 ((Go.IntKind.wrap Go.IntKind.i64 ((if (a2.2.2.1 > (f118 ((a0.1, a0.2), ())).1) then a2.2.2.1 else (f118 ((a0.1, a0.2), ())).1) - a2.2.1)) + (1 : Int))), ())))).1, ())).1)) - (1 : Int))) > a2.2.2.2.1)) then
  (bif (p119 (a1, (a3, (a0.1, ())))) then
  (some ((f119 (a1, (a3, (a0.1, ())))).1, ((20 : Int), ())))
  else none)
  else bif a0.1 then
  (bif (decide ((0 : Int) ≤ (Go.IntKind.wrap Go.IntKind.i64 (a2.1 - (1 : Int))))) then
  (bif (!(f120 ((a0.1, a0.2), (a3, ((Go.IntKind.wrap Go.IntKind.i64 ((Go.IntKind.wrap Go.IntKind.i64 ((if (a2.2.2.1 > (f118 ((a0.1, a0.2), ())).1) then a2.2.2.1 else (f118 ((a0.1, a0.2), ())).1) - a2.2.1)) + (1 : Int))), ())))).2.1) then
  (some ((Vx.orI Go.IntKind.u64 (Vx.shlI Go.IntKind.u64 (Go.IntKind.wrap Go.IntKind.u64 (Go.IntKind.wrap Go.IntKind.i64 ((Go.IntKind.wrap Go.IntKind.i64 ((Go.IntKind.wrap Go.IntKind.i64 ((if (a2.2.2.1 > (f118 ((a0.1, a0.2), ())).1) then a2.2.2.1 else (f118 ((a0.1, a0.2), ())).1) - a2.2.1)) + (1 : Int))) - (Go.IntKind.wrap Go.IntKind.i64 ((Go.IntKind.wrap Go.IntKind.i64 (a2.2.2.1 - a2.2.1)) + (1 : Int)))))) (Go.IntKind.wrap Go.IntKind.i64 (a2.2.1 - (1 : Int)))) (Vx.shlI Go.IntKind.u64 (1 : Int) (Go.IntKind.wrap Go.IntKind.i64 (a2.1 - (1 : Int))))), ((0 : Int), ())))
  else bif (p121 ((a0.1, a0.2), ((a2.1, a2.2), (a3, (f118 ((a0.1, a0.2), ())))))) then
  (bif (f121 ((a0.1, a0.2), ((a2.1, a2.2), (a3, (f118 ((a0.1, a0.2), ())))))).1 then
  (some ((Vx.orI Go.IntKind.u64 (Vx.shlI Go.IntKind.u64 (Go.IntKind.wrap Go.IntKind.u64 (Go.IntKind.wrap Go.IntKind.i64 ((Go.IntKind.wrap Go.IntKind.i64 ((Go.IntKind.wrap Go.IntKind.i64 ((if (a2.2.2.1 > (f118 ((a0.1, a0.2), ())).1) then a2.2.2.1 else (f118 ((a0.1, a0.2), ())).1) - a2.2.1)) + (1 : Int))) - (Go.IntKind.wrap Go.IntKind.i64 ((Go.IntKind.wrap Go.IntKind.i64 (a2.2.2.1 - a2.2.1)) + (1 : Int)))))) (Go.IntKind.wrap Go.IntKind.i64 (a2.2.1 - (1 : Int)))) (Vx.shlI Go.IntKind.u64 (1 : Int) (Go.IntKind.wrap Go.IntKind.i64 (a2.1 - (1 : Int))))), ((24 : Int), ())))
  else some ((Vx.orI Go.IntKind.u64 (Vx.shlI Go.IntKind.u64 (Go.IntKind.wrap Go.IntKind.u64 (Go.IntKind.wrap Go.IntKind.i64 ((Go.IntKind.wrap Go.IntKind.i64 ((Go.IntKind.wrap Go.IntKind.i64 ((if (a2.2.2.1 > (f118 ((a0.1, a0.2), ())).1) then a2.2.2.1 else (f118 ((a0.1, a0.2), ())).1) - a2.2.1)) + (1 : Int))) - (Go.IntKind.wrap Go.IntKind.i64 ((Go.IntKind.wrap Go.IntKind.i64 (a2.2.2.1 - a2.2.1)) + (1 : Int)))))) (Go.IntKind.wrap Go.IntKind.i64 (a2.2.1 - (1 : Int)))) (Vx.shlI Go.IntKind.u64 (1 : Int) (Go.IntKind.wrap Go.IntKind.i64 (a2.1 - (1 : Int))))), ((16 : Int), ())))
  else none)
  else none)
  else bif (!(f120 ((a0.1, a0.2), (a3, ((Go.IntKind.wrap Go.IntKind.i64 ((Go.IntKind.wrap Go.IntKind.i64 ((if (a2.2.2.1 > (f118 ((a0.1, a0.2), ())).1) then a2.2.2.1 else (f118 ((a0.1, a0.2), ())).1) - a2.2.1)) + (1 : Int))), ())))).2.1) then
  (some ((Vx.shlI Go.IntKind.u64 (Go.IntKind.wrap Go.IntKind.u64 (Go.IntKind.wrap Go.IntKind.i64 ((Go.IntKind.wrap Go.IntKind.i64 ((Go.IntKind.wrap Go.IntKind.i64 ((if (a2.2.2.1 > (f118 ((a0.1, a0.2), ())).1) then a2.2.2.1 else (f118 ((a0.1, a0.2), ())).1) - a2.2.1)) + (1 : Int))) - (Go.IntKind.wrap Go.IntKind.i64 ((Go.IntKind.wrap Go.IntKind.i64 (a2.2.2.1 - a2.2.1)) + (1 : Int)))))) (Go.IntKind.wrap Go.IntKind.i64 (a2.2.1 - (1 : Int)))), ((0 : Int), ())))
  else bif (p121 ((a0.1, a0.2), ((a2.1, a2.2), (a3, (f118 ((a0.1, a0.2), ())))))) then
  (bif (f121 ((a0.1, a0.2), ((a2.1, a2.2), (a3, (f118 ((a0.1, a0.2), ())))))).1 then
  (some ((Vx.shlI Go.IntKind.u64 (Go.IntKind.wrap Go.IntKind.u64 (Go.IntKind.wrap Go.IntKind.i64 ((Go.IntKind.wrap Go.IntKind.i64 ((Go.IntKind.wrap Go.IntKind.i64 ((if (a2.2.2.1 > (f118 ((a0.1, a0.2), ())).1) then a2.2.2.1 else (f118 ((a0.1, a0.2), ())).1) - a2.2.1)) + (1 : Int))) - (Go.IntKind.wrap Go.IntKind.i64 ((Go.IntKind.wrap Go.IntKind.i64 (a2.2.2.1 - a2.2.1)) + (1 : Int)))))) (Go.IntKind.wrap Go.IntKind.i64 (a2.2.1 - (1 : Int)))), ((24 : Int), ())))
  else some ((Vx.shlI Go.IntKind.u64 (Go.IntKind.wrap Go.IntKind.u64 (Go.IntKind.wrap Go.IntKind.i64 ((Go.IntKind.wrap Go.IntKind.i64 ((Go.IntKind.wrap Go.IntKind.i64 ((if (a2.2.2.1 > (f118 ((a0.1, a0.2), ())).1) then a2.2.2.1 else (f118 ((a0.1, a0.2), ())).1) - a2.2.1)) + (1 : Int))) - (Go.IntKind.wrap Go.IntKind.i64 ((Go.IntKind.wrap Go.IntKind.i64 (a2.2.2.1 - a2.2.1)) + (1 : Int)))))) (Go.IntKind.wrap Go.IntKind.i64 (a2.2.1 - (1 : Int)))), ((16 : Int), ())))
  else none)
  else none)
  else none)
  else none)
  else none
theorem r98 (p118 : DenS I118 → Bool) (f118 : DenS I118 → DenS O118) (p120 : DenS I120 → Bool) (f120 : DenS I120 → DenS O120) (p100 : DenS I100 → Bool) (f100 : DenS I100 → DenS O100) (p119 : DenS I119 → Bool) (f119 : DenS I119 → DenS O119) (p121 : DenS I121 → Bool) (f121 : DenS I121 → DenS O121) (a0 : Den (.pair (.bool) (.pair (.slice (.int .u64)) (.pair (.int .i64) (.pair (.bool) (.unit)))))) (a1 : Den (.int .i64)) (a2 : Den (.pair (.int .i64) (.pair (.int .i64) (.pair (.int .i64) (.pair (.int .i64) (.unit)))))) (a3 : Den (.int .i64)) :
    run { P := Go.Proofs.Tryd.prog, sums := [(118, ⟨I118, O118, p118, f118⟩), (120, ⟨I120, O120, p120, f120⟩), (100, ⟨I100, O100, p100, f100⟩), (119, ⟨I119, O119, p119, f119⟩), (121, ⟨I121, O121, p121, f121⟩)], loops := [], globs := G1 } 9 98 Go.Proofs.Tryd.f98 I98 O98 (a0, a1, a2, a3, ()) = t98 p118 f118 p120 f120 p100 f100 p119 f119 p121 f121 a0 a1 a2 a3 := by kernel_rfl
noncomputable def T98 (x : DenS I98) : Option (DenS O98) := t98 S118.pre S118.F S120.pre S120.F S100.pre S100.F S119.pre S119.F S121.pre S121.F x.1 x.2.1 x.2.2.1 x.2.2.2.1
noncomputable def C98 : Cfg := { P := Go.Proofs.Tryd.prog, sums := [(118, S118), (120, S120), (100, S100), (119, S119), (121, S121)], loops := [], globs := G1 }
noncomputable def S98 : Sum := sumOf I98 O98 T98 (DenS.dflt O98)
theorem S98_sound : Sound Go.Proofs.Tryd.prog G1 98 S98 :=
  fn_sound C98 9 98 Go.Proofs.Tryd.f98 mixedOk (by kernel_rfl) (by kernel_rfl) (by kernel_rfl) ⟨S118_sound, ⟨S120_sound, ⟨S100_sound, ⟨S119_sound, ⟨S121_sound, trivial⟩⟩⟩⟩⟩ trivial I98 O98 T98 _ fun x => r98 S118.pre S118.F S120.pre S120.F S100.pre S100.F S119.pre S119.F S121.pre S121.F x.1 x.2.1 x.2.2.1 x.2.2.2.1
/-- vernier/round.Parts -/
abbrev I61 : Sig := [(false, .int .i64), (false, .int .i64), (false, .bool), (true, .pair (.int .u64) (.pair (.int .u64) (.unit))), (false, .int .i64), (false, .bool)]
abbrev O61 : Sig := [(false, .int .u64), (false, .int .i64), (false, .int .i64)]
noncomputable def t61 (p96 : DenS I96 → Bool) (f96 : DenS I96 → DenS O96) (p99 : DenS I99 → Bool) (f99 : DenS I99 → DenS O99) (p100 : DenS I100 → Bool) (f100 : DenS I100 → DenS O100) (p101 : DenS I101 → Bool) (f101 : DenS I101 → DenS O101) (p98 : DenS I98 → Bool) (f98 : DenS I98 → DenS O98) (a0 : Den (.int .i64)) (a1 : Den (.int .i64)) (a2 : Den (.bool)) (a3 : Den (.pair (.int .u64) (.pair (.int .u64) (.unit)))) (a4 : Den (.int .i64)) (a5 : Den (.bool)) : Option (DenS O61) :=
  bif (p96 (a0, (a1, ()))) then
  (bif ((f96 (a0, (a1, ()))).2.1 != (0 : Int)) then
  (some ((0 : Int), ((0 : Int), (f96 (a0, (a1, ()))).2)))
  else bif (p99 ((a3.2.1 :: (a3.1 :: [])), ())) then
  (bif ((decide (a4 < (-(40000 : Int)))) || (decide (a4 > (40000 : Int)))) then
  (some ((0 : Int), ((0 : Int), ((30 : Int), ()))))
  else bif ((p100 (f99 ((a3.2.1 :: (a3.1 :: [])), ()))) || (!a5)) then
  (bif (a5 && (decide ((f100 (f99 ((a3.2.1 :: (a3.1 :: [])), ()))).1 < (Go.IntKind.wrap Go.IntKind.i64 ((f96 (a0, (a1, ()))).1.2.1 + (2 : Int)))))) then
  (some ((0 : Int), ((0 : Int), ((7 : Int), ()))))
  else bif (((f99 ((a3.2.1 :: (a3.1 :: [])), ())).1.length : Int) == (0 : Int)) then
  (bif (p101 (a0, (a2, ()))) then
  (some (f101 (a0, (a2, ()))))
  else none)
  else bif (p98 ((a2, ((f99 ((a3.2.1 :: (a3.1 :: [])), ())).1, (a4, (a5, ())))), (a0, ((f96 (a0, (a1, ()))).1, (a1, ()))))) then
  (some ((f98 ((a2, ((f99 ((a3.2.1 :: (a3.1 :: [])), ())).1, (a4, (a5, ())))), (a0, ((f96 (a0, (a1, ()))).1, (a1, ()))))).1, ((f98 ((a2, ((f99 ((a3.2.1 :: (a3.1 :: [])), ())).1, (a4, (a5, ())))), (a0, ((f96 (a0, (a1, ()))).1, (a1, ()))))).2.1, ((0 : Int), ()))))
  else none)
  else none)
  else none)
  else none
theorem r61 (p96 : DenS I96 → Bool) (f96 : DenS I96 → DenS O96) (p99 : DenS I99 → Bool) (f99 : DenS I99 → DenS O99) (p100 : DenS I100 → Bool) (f100 : DenS I100 → DenS O100) (p101 : DenS I101 → Bool) (f101 : DenS I101 → DenS O101) (p98 : DenS I98 → Bool) (f98 : DenS I98 → DenS O98) (a0 : Den (.int .i64)) (a1 : Den (.int .i64)) (a2 : Den (.bool)) (a3 : Den (.pair (.int .u64) (.pair (.int .u64) (.unit)))) (a4 : Den (.int .i64)) (a5 : Den (.bool)) :
    run { P := Go.Proofs.Tryd.prog, sums := [(96, ⟨I96, O96, p96, f96⟩), (99, ⟨I99, O99, p99, f99⟩), (100, ⟨I100, O100, p100, f100⟩), (101, ⟨I101, O101, p101, f101⟩), (98, ⟨I98, O98, p98, f98⟩)], loops := [], globs := G1 } 9 61 Go.Proofs.Tryd.f61 I61 O61 (a0, a1, a2, a3, a4, a5, ()) = t61 p96 f96 p99 f99 p100 f100 p101 f101 p98 f98 a0 a1 a2 a3 a4 a5 := by kernel_rfl
noncomputable def T61 (x : DenS I61) : Option (DenS O61) := t61 S96.pre S96.F S99.pre S99.F S100.pre S100.F S101.pre S101.F S98.pre S98.F x.1 x.2.1 x.2.2.1 x.2.2.2.1 x.2.2.2.2.1 x.2.2.2.2.2.1
noncomputable def C61 : Cfg := { P := Go.Proofs.Tryd.prog, sums := [(96, S96), (99, S99), (100, S100), (101, S101), (98, S98)], loops := [], globs := G1 }
noncomputable def S61 : Sum := sumOf I61 O61 T61 (DenS.dflt O61)
theorem S61_sound : Sound Go.Proofs.Tryd.prog G1 61 S61 :=
  fn_sound C61 9 61 Go.Proofs.Tryd.f61 mixedOk (by kernel_rfl) (by kernel_rfl) (by kernel_rfl) ⟨S96_sound, ⟨S99_sound, ⟨S100_sound, ⟨S101_sound, ⟨S98_sound, trivial⟩⟩⟩⟩⟩ trivial I61 O61 T61 _ fun x => r61 S96.pre S96.F S99.pre S99.F S100.pre S100.F S101.pre S101.F S98.pre S98.F x.1 x.2.1 x.2.2.1 x.2.2.2.1 x.2.2.2.2.1 x.2.2.2.2.2.1
end Vx
