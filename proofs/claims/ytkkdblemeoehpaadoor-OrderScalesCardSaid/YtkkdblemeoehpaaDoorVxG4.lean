/- Part 4 of the proof. What is proved: symbolic execution of the functions, proved sound; what each function of the program computes, and that every run ends with it; what these functions compute, in plain numbers. Conditions: each theorem bears its own. -/
import Derived.Test.YtkkdblemeoehpaaDoorVxG3
set_option linter.all false
set_option exponentiation.threshold 1000000
namespace Vx
open Go Go.Proofs
def k_len8 : List UInt8 := [0, 1, 2, 2, 3, 3, 3, 3, 4, 4, 4, 4, 4, 4, 4, 4, 5, 5, 5, 5, 5, 5, 5, 5, 5, 5, 5, 5, 5, 5, 5, 5, 6, 6, 6, 6, 6, 6, 6, 6, 6, 6, 6, 6, 6, 6, 6, 6, 6, 6, 6, 6, 6, 6, 6, 6, 6, 6, 6, 6, 6, 6, 6, 6, 7, 7, 7, 7, 7, 7, 7, 7, 7, 7, 7, 7, 7, 7, 7, 7, 7, 7, 7, 7, 7, 7, 7, 7, 7, 7, 7, 7, 7, 7, 7, 7, 7, 7, 7, 7, 7, 7, 7, 7, 7, 7, 7, 7, 7, 7, 7, 7, 7, 7, 7, 7, 7, 7, 7, 7, 7, 7, 7, 7, 7, 7, 7, 7, 8, 8, 8, 8, 8, 8, 8, 8, 8, 8, 8, 8, 8, 8, 8, 8, 8, 8, 8, 8, 8, 8, 8, 8, 8, 8, 8, 8, 8, 8, 8, 8, 8, 8, 8, 8, 8, 8, 8, 8, 8, 8, 8, 8, 8, 8, 8, 8, 8, 8, 8, 8, 8, 8, 8, 8, 8, 8, 8, 8, 8, 8, 8, 8, 8, 8, 8, 8, 8, 8, 8, 8, 8, 8, 8, 8, 8, 8, 8, 8, 8, 8, 8, 8, 8, 8, 8, 8, 8, 8, 8, 8, 8, 8, 8, 8, 8, 8, 8, 8, 8, 8, 8, 8, 8, 8, 8, 8, 8, 8, 8, 8, 8, 8, 8, 8, 8, 8, 8, 8, 8, 8, 8, 8, 8, 8, 8, 8]
def k_deb : List (Den (.int .u8)) := [0, 1, 56, 2, 57, 49, 28, 3, 61, 58, 42, 50, 38, 29, 17, 4, 62, 47, 59, 36, 45, 43, 51, 22, 53, 39, 33, 30, 24, 18, 12, 5, 63, 55, 48, 27, 60, 41, 37, 16, 46, 35, 44, 21, 52, 32, 23, 11, 54, 26, 40, 15, 34, 20, 31, 10, 25, 14, 19, 9, 13, 8, 7, 6]
def G1 : List (Nat × Sigma fun τ => List (Den τ)) := [(0, ⟨rowsSh, k_rows⟩), (1, ⟨.int .u8, k_deb⟩)]
theorem G01 : ∀ g x, findGlob G0 g = some x → findGlob G1 g = some x := fun g x h => by
  simp only [G0, G1, findGlob] at h ⊢
  cases hb : Nat.beq 0 g with
  | true => rw [hb] at h; exact h
  | false => rw [hb] at h; cases h
/-- math/bits.Add64 -/
abbrev I155 : Sig := sig3
abbrev O155 : Sig := sig2
noncomputable def S155 : Sum := addSum
theorem S155_sound : Sound Go.Proofs.Tryd.prog G1 155 S155 := add_sound Go.Proofs.Tryd.func155 (by kernel_rfl) (by kernel_rfl) (by kernel_rfl) (by kernel_rfl)
/-- vernier/round.modeError -/
abbrev I147 : Sig := [(false, .int .i64)]
abbrev O147 : Sig := [(false, .int .i64)]
noncomputable def t147 (a0 : Den (.int .i64)) : Option (DenS O147) :=
  bif ((decide (a0 < (0 : Int))) || (decide (a0 > (5 : Int)))) then
  (some ((3 : Int), ()))
  else some ((0 : Int), ())
theorem r147 (a0 : Den (.int .i64)) :
    run { P := Go.Proofs.Tryd.prog, sums := [], loops := [], globs := G1 } 9 147 Go.Proofs.Tryd.f147 I147 O147 (a0, ()) = t147 a0 := by kernel_rfl
noncomputable def T147 (x : DenS I147) : Option (DenS O147) := t147 x.1
noncomputable def C147 : Cfg := { P := Go.Proofs.Tryd.prog, sums := [], loops := [], globs := G1 }
noncomputable def S147 : Sum := sumOf I147 O147 T147 (DenS.dflt O147)
theorem S147_sound : Sound Go.Proofs.Tryd.prog G1 147 S147 :=
  fn_sound C147 9 147 Go.Proofs.Tryd.f147 mixedOk (by kernel_rfl) (by kernel_rfl) (by kernel_rfl) trivial trivial I147 O147 T147 _ fun x => r147 x.1
/-- vernier/round.refuses -/
abbrev I105 : Sig := [(false, .int .i64), (false, .int .i64)]
abbrev O105 : Sig := [(true, .pair (.int .i64) (.pair (.int .i64) (.pair (.int .i64) (.pair (.int .i64) (.unit))))), (false, .int .i64)]
noncomputable def t105 (p69 : DenS I69 → Bool) (f69 : DenS I69 → DenS O69) (p147 : DenS I147 → Bool) (f147 : DenS I147 → DenS O147) (a0 : Den (.int .i64)) (a1 : Den (.int .i64)) : Option (DenS O105) :=
  bif (p69 (a0, ())) then
  (bif ((f69 (a0, ())).2.1 != (0 : Int)) then
  (some (f69 (a0, ())))
  else bif (p147 (a1, ())) then
  (some ((f69 (a0, ())).1, (f147 (a1, ()))))
  else none)
  else none
theorem r105 (p69 : DenS I69 → Bool) (f69 : DenS I69 → DenS O69) (p147 : DenS I147 → Bool) (f147 : DenS I147 → DenS O147) (a0 : Den (.int .i64)) (a1 : Den (.int .i64)) :
    run { P := Go.Proofs.Tryd.prog, sums := [(69, ⟨I69, O69, p69, f69⟩), (147, ⟨I147, O147, p147, f147⟩)], loops := [], globs := G1 } 9 105 Go.Proofs.Tryd.f105 I105 O105 (a0, a1, ()) = t105 p69 f69 p147 f147 a0 a1 := by kernel_rfl
noncomputable def T105 (x : DenS I105) : Option (DenS O105) := t105 S69.pre S69.F S147.pre S147.F x.1 x.2.1
noncomputable def C105 : Cfg := { P := Go.Proofs.Tryd.prog, sums := [(69, S69), (147, S147)], loops := [], globs := G1 }
noncomputable def S105 : Sum := sumOf I105 O105 T105 (DenS.dflt O105)
theorem S105_sound : Sound Go.Proofs.Tryd.prog G1 105 S105 :=
  fn_sound C105 9 105 Go.Proofs.Tryd.f105 mixedOk (by kernel_rfl) (by kernel_rfl) (by kernel_rfl) ⟨S69_sound.more G01, ⟨S147_sound, trivial⟩⟩ trivial I105 O105 T105 _ fun x => r105 S69.pre S69.F S147.pre S147.F x.1 x.2.1
/-- vernier/nat.trim -/
abbrev I173 : Sig := [(false, .slice (.int .u64))]
abbrev O173 : Sig := [(false, .slice (.int .u64))]
abbrev P173_2 : Pat := ⟨21, [(0, .one (.sl (.int .u64))), (3, .one (.v .i64))], []⟩
abbrev A173_2 : List (Nat × Shape) := []
abbrev X173_2 : List (Nat × Pat) := [(0, ⟨21, [(0, .one (.sl (.int .u64))), (3, .one (.v .i64))], []⟩)]
abbrev Q173_2 : Option Pat := none
noncomputable def h173_2 {R : Type} (L : Pat.D P173_2 → Option R) (e : OutT X173_2 Q173_2 → Option R) (x : Pat.D P173_2) : Option R :=
  bif (((decide ((0 : Int) ≤ (Go.IntKind.wrap Go.IntKind.i64 (x.1.2.1 - (1 : Int))))) && (decide ((Go.IntKind.wrap Go.IntKind.i64 (x.1.2.1 - (1 : Int))) < (x.1.1.length : Int)))) || (!(decide (x.1.2.1 > (0 : Int))))) then
  (bif ((decide (x.1.2.1 > (0 : Int))) && ((x.1.1.getD (Int.toNat (Go.IntKind.wrap Go.IntKind.i64 (x.1.2.1 - (1 : Int)))) (0 : Int)) == (0 : Int))) then
  ((L ((x.1.1, ((Go.IntKind.wrap Go.IntKind.i64 (x.1.2.1 - (1 : Int))), ())), ())))
  else (e (.inl (x.1, ()))))
  else none
theorem s173_2 (w173_2 : Pat.D P173_2 → Option (OutT X173_2 Q173_2)) (d : Nat) (R : Type) (L : Pat.D P173_2 → Option R) (e : OutT X173_2 Q173_2 → Option R) (x : Pat.D P173_2) :
    lStep { P := Go.Proofs.Tryd.prog, sums := [], loops := [(173, 2, LoopSpec.of P173_2 A173_2 X173_2 Q173_2 w173_2)], globs := G1 } (d + 2) 173 (bodyOf Go.Proofs.Tryd.f173 2) P173_2 A173_2 X173_2 Q173_2 (R := R) L e x = h173_2 L e x := by kernel_rfl
theorem m173_2 : Par fun L e x => h173_2 L e x := by
  intro A B rel L L' e e' h0 hL he x
  unfold h173_2
  repeat' (first | exact h0 | exact hL _ | exact he _ | apply rel_cond | (apply rel_obind h0; intro _) | (apply rel_obind2 <;> intro _))
noncomputable def t173 (w173_2 : Pat.D P173_2 → Option (OutT X173_2 Q173_2)) (a0 : Den (.slice (.int .u64))) : Option (DenS O173) :=
  Vx.obind (w173_2 ((a0, ((a0.length : Int), ())), ())) fun y0 =>
  Vx.obind2 y0 (fun y1 =>
  bif ((decide ((0 : Int) ≤ y1.1.2.1)) && (decide (y1.1.2.1 ≤ (y1.1.1.length : Int)))) then
  (some (((y1.1.1.take (Int.toNat y1.1.2.1)).drop (Int.toNat (0 : Int))), ()))
  else none) (fun z1 =>
  none)
theorem r173 (w173_2 : Pat.D P173_2 → Option (OutT X173_2 Q173_2)) (a0 : Den (.slice (.int .u64))) :
    run { P := Go.Proofs.Tryd.prog, sums := [], loops := [(173, 2, LoopSpec.of P173_2 A173_2 X173_2 Q173_2 w173_2)], globs := G1 } 9 173 Go.Proofs.Tryd.f173 I173 O173 (a0, ()) = t173 w173_2 a0 := by kernel_rfl
noncomputable def W173_2 : P173_2.D → Option (OutT X173_2 Q173_2) := lfix fun L => h173_2 L some
noncomputable def T173 (x : DenS I173) : Option (DenS O173) := t173 W173_2 x.1
noncomputable def C173 : Cfg := { P := Go.Proofs.Tryd.prog, sums := [], loops := [(173, 2, LoopSpec.of P173_2 A173_2 X173_2 Q173_2 W173_2)], globs := G1 }
noncomputable def S173 : Sum := sumOf I173 O173 T173 (DenS.dflt O173)
theorem S173_sound : Sound Go.Proofs.Tryd.prog G1 173 S173 :=
  fn_sound C173 9 173 Go.Proofs.Tryd.f173 mixedOk (by kernel_rfl) (by kernel_rfl) (by kernel_rfl) trivial ⟨rfl, fun d => loopOk_of (fun L e x => h173_2 L e x) (m173_2) (fun R L e x => s173_2 W173_2 d R L e x), trivial⟩ I173 O173 T173 _ fun x => r173 W173_2 x.1
/-- vernier/nat.copied -/
abbrev I146 : Sig := [(false, .slice (.int .u64))]
abbrev O146 : Sig := [(false, .slice (.int .u64))]
noncomputable def t146 (p173 : DenS I173 → Bool) (f173 : DenS I173 → DenS O173) (a0 : Den (.slice (.int .u64))) : Option (DenS O146) :=
  bif (p173 (a0, ())) then
  (bif ((decide ((0 : Int) ≤ ((f173 (a0, ())).1.length : Int))) && (decide ((((f173 (a0, ())).1.length : Int) * (8 : Int)) ≤ (140737488355328 : Int)))) then
  (some ((((f173 (a0, ())).1.take (List.replicate (Int.toNat ((f173 (a0, ())).1.length : Int)) (0 : Int)).length) ++ ((List.replicate (Int.toNat ((f173 (a0, ())).1.length : Int)) (0 : Int)).drop (f173 (a0, ())).1.length)), ()))
  else none)
  else none
theorem r146 (p173 : DenS I173 → Bool) (f173 : DenS I173 → DenS O173) (a0 : Den (.slice (.int .u64))) :
    run { P := Go.Proofs.Tryd.prog, sums := [(173, ⟨I173, O173, p173, f173⟩)], loops := [], globs := G1 } 9 146 Go.Proofs.Tryd.f146 I146 O146 (a0, ()) = t146 p173 f173 a0 := by kernel_rfl
noncomputable def T146 (x : DenS I146) : Option (DenS O146) := t146 S173.pre S173.F x.1
noncomputable def C146 : Cfg := { P := Go.Proofs.Tryd.prog, sums := [(173, S173)], loops := [], globs := G1 }
noncomputable def S146 : Sum := sumOf I146 O146 T146 (DenS.dflt O146)
theorem S146_sound : Sound Go.Proofs.Tryd.prog G1 146 S146 :=
  fn_sound C146 9 146 Go.Proofs.Tryd.f146 mixedOk (by kernel_rfl) (by kernel_rfl) (by kernel_rfl) ⟨S173_sound, trivial⟩ trivial I146 O146 T146 _ fun x => r146 S173.pre S173.F x.1
/-- vernier/nat.Trim -/
abbrev I102 : Sig := [(false, .slice (.int .u64))]
abbrev O102 : Sig := [(false, .slice (.int .u64))]
noncomputable def t102 (p146 : DenS I146 → Bool) (f146 : DenS I146 → DenS O146) (a0 : Den (.slice (.int .u64))) : Option (DenS O102) :=
  bif (p146 (a0, ())) then
  (some (f146 (a0, ())))
  else none
theorem r102 (p146 : DenS I146 → Bool) (f146 : DenS I146 → DenS O146) (a0 : Den (.slice (.int .u64))) :
    run { P := Go.Proofs.Tryd.prog, sums := [(146, ⟨I146, O146, p146, f146⟩)], loops := [], globs := G1 } 9 102 Go.Proofs.Tryd.f102 I102 O102 (a0, ()) = t102 p146 f146 a0 := by kernel_rfl
noncomputable def T102 (x : DenS I102) : Option (DenS O102) := t102 S146.pre S146.F x.1
noncomputable def C102 : Cfg := { P := Go.Proofs.Tryd.prog, sums := [(146, S146)], loops := [], globs := G1 }
noncomputable def S102 : Sum := sumOf I102 O102 T102 (DenS.dflt O102)
theorem S102_sound : Sound Go.Proofs.Tryd.prog G1 102 S102 :=
  fn_sound C102 9 102 Go.Proofs.Tryd.f102 mixedOk (by kernel_rfl) (by kernel_rfl) (by kernel_rfl) ⟨S146_sound, trivial⟩ trivial I102 O102 T102 _ fun x => r102 S146.pre S146.F x.1
/-- math/bits.Len64 -/
abbrev I178 : Sig := [(false, .int .u64)]
abbrev O178 : Sig := [(false, .int .i64)]
noncomputable def t178 (a0 : Den (.int .u64)) : Option (DenS O178) :=
  bif (decide (a0 ≥ (4294967296 : Int))) then
  (bif (decide ((Vx.shrI Go.IntKind.u64 a0 (32 : Int)) ≥ (65536 : Int))) then
  (bif (decide ((Vx.shrI Go.IntKind.u64 (Vx.shrI Go.IntKind.u64 a0 (32 : Int)) (16 : Int)) ≥ (256 : Int))) then
  (bif ((decide ((0 : Int) ≤ (Go.IntKind.wrap Go.IntKind.u8 (Vx.shrI Go.IntKind.u64 (Vx.shrI Go.IntKind.u64 (Vx.shrI Go.IntKind.u64 a0 (32 : Int)) (16 : Int)) (8 : Int))))) && (decide ((Go.IntKind.wrap Go.IntKind.u8 (Vx.shrI Go.IntKind.u64 (Vx.shrI Go.IntKind.u64 (Vx.shrI Go.IntKind.u64 a0 (32 : Int)) (16 : Int)) (8 : Int))) < (256 : Int)))) then
  (some ((Go.IntKind.wrap Go.IntKind.i64 ((Go.IntKind.wrap Go.IntKind.i64 ((Go.IntKind.wrap Go.IntKind.i64 ((32 : Int) + (16 : Int))) + (8 : Int))) + (Go.IntKind.wrap Go.IntKind.i64 ((UInt8.toNat (Vx.k_len8.getD (Int.toNat (Go.IntKind.wrap Go.IntKind.u8 (Vx.shrI Go.IntKind.u64 (Vx.shrI Go.IntKind.u64 (Vx.shrI Go.IntKind.u64 a0 (32 : Int)) (16 : Int)) (8 : Int)))) (0 : UInt8))) : Int)))), ()))
  else none)
  else bif ((decide ((0 : Int) ≤ (Go.IntKind.wrap Go.IntKind.u8 (Vx.shrI Go.IntKind.u64 (Vx.shrI Go.IntKind.u64 a0 (32 : Int)) (16 : Int))))) && (decide ((Go.IntKind.wrap Go.IntKind.u8 (Vx.shrI Go.IntKind.u64 (Vx.shrI Go.IntKind.u64 a0 (32 : Int)) (16 : Int))) < (256 : Int)))) then
  (some ((Go.IntKind.wrap Go.IntKind.i64 ((Go.IntKind.wrap Go.IntKind.i64 ((32 : Int) + (16 : Int))) + (Go.IntKind.wrap Go.IntKind.i64 ((UInt8.toNat (Vx.k_len8.getD (Int.toNat (Go.IntKind.wrap Go.IntKind.u8 (Vx.shrI Go.IntKind.u64 (Vx.shrI Go.IntKind.u64 a0 (32 : Int)) (16 : Int)))) (0 : UInt8))) : Int)))), ()))
  else none)
  else bif (decide ((Vx.shrI Go.IntKind.u64 a0 (32 : Int)) ≥ (256 : Int))) then
  (bif ((decide ((0 : Int) ≤ (Go.IntKind.wrap Go.IntKind.u8 (Vx.shrI Go.IntKind.u64 (Vx.shrI Go.IntKind.u64 a0 (32 : Int)) (8 : Int))))) && (decide ((Go.IntKind.wrap Go.IntKind.u8 (Vx.shrI Go.IntKind.u64 (Vx.shrI Go.IntKind.u64 a0 (32 : Int)) (8 : Int))) < (256 : Int)))) then
  (some ((Go.IntKind.wrap Go.IntKind.i64 ((Go.IntKind.wrap Go.IntKind.i64 ((32 : Int) + (8 : Int))) + (Go.IntKind.wrap Go.IntKind.i64 ((UInt8.toNat (Vx.k_len8.getD (Int.toNat (Go.IntKind.wrap Go.IntKind.u8 (Vx.shrI Go.IntKind.u64 (Vx.shrI Go.IntKind.u64 a0 (32 : Int)) (8 : Int)))) (0 : UInt8))) : Int)))), ()))
  else none)
  else bif ((decide ((0 : Int) ≤ (Go.IntKind.wrap Go.IntKind.u8 (Vx.shrI Go.IntKind.u64 a0 (32 : Int))))) && (decide ((Go.IntKind.wrap Go.IntKind.u8 (Vx.shrI Go.IntKind.u64 a0 (32 : Int))) < (256 : Int)))) then
  (some ((Go.IntKind.wrap Go.IntKind.i64 ((32 : Int) + (Go.IntKind.wrap Go.IntKind.i64 ((UInt8.toNat (Vx.k_len8.getD (Int.toNat (Go.IntKind.wrap Go.IntKind.u8 (Vx.shrI Go.IntKind.u64 a0 (32 : Int)))) (0 : UInt8))) : Int)))), ()))
  else none)
  else bif (decide (a0 ≥ (65536 : Int))) then
  (bif (decide ((Vx.shrI Go.IntKind.u64 a0 (16 : Int)) ≥ (256 : Int))) then
  (bif ((decide ((0 : Int) ≤ (Go.IntKind.wrap Go.IntKind.u8 (Vx.shrI Go.IntKind.u64 (Vx.shrI Go.IntKind.u64 a0 (16 : Int)) (8 : Int))))) && (decide ((Go.IntKind.wrap Go.IntKind.u8 (Vx.shrI Go.IntKind.u64 (Vx.shrI Go.IntKind.u64 a0 (16 : Int)) (8 : Int))) < (256 : Int)))) then
  (some ((Go.IntKind.wrap Go.IntKind.i64 ((Go.IntKind.wrap Go.IntKind.i64 ((Go.IntKind.wrap Go.IntKind.i64 ((0 : Int) + (16 : Int))) + (8 : Int))) + (Go.IntKind.wrap Go.IntKind.i64 ((UInt8.toNat (Vx.k_len8.getD (Int.toNat (Go.IntKind.wrap Go.IntKind.u8 (Vx.shrI Go.IntKind.u64 (Vx.shrI Go.IntKind.u64 a0 (16 : Int)) (8 : Int)))) (0 : UInt8))) : Int)))), ()))
  else none)
  else bif ((decide ((0 : Int) ≤ (Go.IntKind.wrap Go.IntKind.u8 (Vx.shrI Go.IntKind.u64 a0 (16 : Int))))) && (decide ((Go.IntKind.wrap Go.IntKind.u8 (Vx.shrI Go.IntKind.u64 a0 (16 : Int))) < (256 : Int)))) then
  (some ((Go.IntKind.wrap Go.IntKind.i64 ((Go.IntKind.wrap Go.IntKind.i64 ((0 : Int) + (16 : Int))) + (Go.IntKind.wrap Go.IntKind.i64 ((UInt8.toNat (Vx.k_len8.getD (Int.toNat (Go.IntKind.wrap Go.IntKind.u8 (Vx.shrI Go.IntKind.u64 a0 (16 : Int)))) (0 : UInt8))) : Int)))), ()))
  else none)
  else bif (decide (a0 ≥ (256 : Int))) then
  (bif ((decide ((0 : Int) ≤ (Go.IntKind.wrap Go.IntKind.u8 (Vx.shrI Go.IntKind.u64 a0 (8 : Int))))) && (decide ((Go.IntKind.wrap Go.IntKind.u8 (Vx.shrI Go.IntKind.u64 a0 (8 : Int))) < (256 : Int)))) then
  (some ((Go.IntKind.wrap Go.IntKind.i64 ((Go.IntKind.wrap Go.IntKind.i64 ((0 : Int) + (8 : Int))) + (Go.IntKind.wrap Go.IntKind.i64 ((UInt8.toNat (Vx.k_len8.getD (Int.toNat (Go.IntKind.wrap Go.IntKind.u8 (Vx.shrI Go.IntKind.u64 a0 (8 : Int)))) (0 : UInt8))) : Int)))), ()))
  else none)
  else bif ((decide ((0 : Int) ≤ (Go.IntKind.wrap Go.IntKind.u8 a0))) && (decide ((Go.IntKind.wrap Go.IntKind.u8 a0) < (256 : Int)))) then
  (some ((Go.IntKind.wrap Go.IntKind.i64 ((0 : Int) + (Go.IntKind.wrap Go.IntKind.i64 ((UInt8.toNat (Vx.k_len8.getD (Int.toNat (Go.IntKind.wrap Go.IntKind.u8 a0)) (0 : UInt8))) : Int)))), ()))
  else none
theorem r178 (a0 : Den (.int .u64)) :
    run { P := Go.Proofs.Tryd.prog, sums := [], loops := [], globs := G1 } 9 178 Go.Proofs.Tryd.f178 I178 O178 (a0, ()) = t178 a0 := by kernel_rfl
noncomputable def T178 (x : DenS I178) : Option (DenS O178) := t178 x.1
noncomputable def C178 : Cfg := { P := Go.Proofs.Tryd.prog, sums := [], loops := [], globs := G1 }
noncomputable def S178 : Sum := sumOf I178 O178 T178 (DenS.dflt O178)
theorem S178_sound : Sound Go.Proofs.Tryd.prog G1 178 S178 :=
  fn_sound C178 9 178 Go.Proofs.Tryd.f178 mixedOk (by kernel_rfl) (by kernel_rfl) (by kernel_rfl) trivial trivial I178 O178 T178 _ fun x => r178 x.1
/-- vernier/nat.Len -/
abbrev I151 : Sig := [(false, .slice (.int .u64))]
abbrev O151 : Sig := [(false, .int .i64)]
noncomputable def t151 (p173 : DenS I173 → Bool) (f173 : DenS I173 → DenS O173) (p178 : DenS I178 → Bool) (f178 : DenS I178 → DenS O178) (a0 : Den (.slice (.int .u64))) : Option (DenS O151) :=
  bif (p173 (a0, ())) then
  (bif (((f173 (a0, ())).1.length : Int) == (0 : Int)) then
  (some ((0 : Int), ()))
  else bif ((decide ((0 : Int) ≤ (Go.IntKind.wrap Go.IntKind.i64 (((f173 (a0, ())).1.length : Int) - (1 : Int))))) && (decide ((Go.IntKind.wrap Go.IntKind.i64 (((f173 (a0, ())).1.length : Int) - (1 : Int))) < ((f173 (a0, ())).1.length : Int)))) then
  (bif (p178 (((f173 (a0, ())).1.getD (Int.toNat (Go.IntKind.wrap Go.IntKind.i64 (((f173 (a0, ())).1.length : Int) - (1 : Int)))) (0 : Int)), ())) then
  (some ((Go.IntKind.wrap Go.IntKind.i64 ((Go.IntKind.wrap Go.IntKind.i64 ((64 : Int) * (Go.IntKind.wrap Go.IntKind.i64 (((f173 (a0, ())).1.length : Int) - (1 : Int))))) + (f178 (((f173 (a0, ())).1.getD (Int.toNat (Go.IntKind.wrap Go.IntKind.i64 (((f173 (a0, ())).1.length : Int) - (1 : Int)))) (0 : Int)), ())).1)), ()))
  else none)
  else none)
  else none
theorem r151 (p173 : DenS I173 → Bool) (f173 : DenS I173 → DenS O173) (p178 : DenS I178 → Bool) (f178 : DenS I178 → DenS O178) (a0 : Den (.slice (.int .u64))) :
    run { P := Go.Proofs.Tryd.prog, sums := [(173, ⟨I173, O173, p173, f173⟩), (178, ⟨I178, O178, p178, f178⟩)], loops := [], globs := G1 } 9 151 Go.Proofs.Tryd.f151 I151 O151 (a0, ()) = t151 p173 f173 p178 f178 a0 := by kernel_rfl
noncomputable def T151 (x : DenS I151) : Option (DenS O151) := t151 S173.pre S173.F S178.pre S178.F x.1
noncomputable def C151 : Cfg := { P := Go.Proofs.Tryd.prog, sums := [(173, S173), (178, S178)], loops := [], globs := G1 }
noncomputable def S151 : Sum := sumOf I151 O151 T151 (DenS.dflt O151)
theorem S151_sound : Sound Go.Proofs.Tryd.prog G1 151 S151 :=
  fn_sound C151 9 151 Go.Proofs.Tryd.f151 mixedOk (by kernel_rfl) (by kernel_rfl) (by kernel_rfl) ⟨S173_sound, ⟨S178_sound, trivial⟩⟩ trivial I151 O151 T151 _ fun x => r151 S173.pre S173.F S178.pre S178.F x.1
/-- (vernier/round.number).top -/
abbrev I148 : Sig := [(true, .pair (.bool) (.pair (.slice (.int .u64)) (.pair (.int .i64) (.pair (.bool) (.unit)))))]
abbrev O148 : Sig := [(false, .int .i64)]
noncomputable def t148 (p151 : DenS I151 → Bool) (f151 : DenS I151 → DenS O151) (a0 : Den (.pair (.bool) (.pair (.slice (.int .u64)) (.pair (.int .i64) (.pair (.bool) (.unit)))))) : Option (DenS O148) :=
  bif (p151 (a0.2.1, ())) then
  (some ((Go.IntKind.wrap Go.IntKind.i64 ((Go.IntKind.wrap Go.IntKind.i64 (a0.2.2.1 + (f151 (a0.2.1, ())).1)) - (1 : Int))), ()))
  else none
theorem r148 (p151 : DenS I151 → Bool) (f151 : DenS I151 → DenS O151) (a0 : Den (.pair (.bool) (.pair (.slice (.int .u64)) (.pair (.int .i64) (.pair (.bool) (.unit)))))) :
    run { P := Go.Proofs.Tryd.prog, sums := [(151, ⟨I151, O151, p151, f151⟩)], loops := [], globs := G1 } 9 148 Go.Proofs.Tryd.f148 I148 O148 (a0, ()) = t148 p151 f151 a0 := by kernel_rfl
noncomputable def T148 (x : DenS I148) : Option (DenS O148) := t148 S151.pre S151.F x.1
noncomputable def C148 : Cfg := { P := Go.Proofs.Tryd.prog, sums := [(151, S151)], loops := [], globs := G1 }
noncomputable def S148 : Sum := sumOf I148 O148 T148 (DenS.dflt O148)
theorem S148_sound : Sound Go.Proofs.Tryd.prog G1 148 S148 :=
  fn_sound C148 9 148 Go.Proofs.Tryd.f148 mixedOk (by kernel_rfl) (by kernel_rfl) (by kernel_rfl) ⟨S151_sound, trivial⟩ trivial I148 O148 T148 _ fun x => r148 S151.pre S151.F x.1
/-- vernier/nat.trim -/
abbrev I1173 : Sig := [(true, .slice (.int .u64))]
abbrev O1173 : Sig := [(true, .slice (.int .u64))]
abbrev P1173_2 : Pat := ⟨21, [(0, .one (.own 0)), (3, .one (.v .i64))], [.arr (.int .u64)]⟩
abbrev A1173_2 : List (Nat × Shape) := []
abbrev X1173_2 : List (Nat × Pat) := [(0, ⟨21, [(0, .one (.own 0)), (3, .one (.v .i64))], [.arr (.int .u64)]⟩)]
abbrev Q1173_2 : Option Pat := none
noncomputable def h1173_2 {R : Type} (L : Pat.D P1173_2 → Option R) (e : OutT X1173_2 Q1173_2 → Option R) (x : Pat.D P1173_2) : Option R :=
  bif (((decide ((0 : Int) ≤ (Go.IntKind.wrap Go.IntKind.i64 (x.1.2.1 - (1 : Int))))) && (decide ((Go.IntKind.wrap Go.IntKind.i64 (x.1.2.1 - (1 : Int))) < (x.2.1.length : Int)))) || (!(decide (x.1.2.1 > (0 : Int))))) then
  (bif ((decide (x.1.2.1 > (0 : Int))) && ((x.2.1.getD (Int.toNat (Go.IntKind.wrap Go.IntKind.i64 (x.1.2.1 - (1 : Int)))) (0 : Int)) == (0 : Int))) then
  ((L (((), ((Go.IntKind.wrap Go.IntKind.i64 (x.1.2.1 - (1 : Int))), ())), x.2)))
  else (e (.inl (((), x.1.2), x.2))))
  else none
theorem s1173_2 (w1173_2 : Pat.D P1173_2 → Option (OutT X1173_2 Q1173_2)) (d : Nat) (R : Type) (L : Pat.D P1173_2 → Option R) (e : OutT X1173_2 Q1173_2 → Option R) (x : Pat.D P1173_2) :
    lStep { P := Go.Proofs.Tryd.prog, sums := [], loops := [(173, 2, LoopSpec.of P1173_2 A1173_2 X1173_2 Q1173_2 w1173_2)], globs := G1, keep := true } (d + 2) 173 (bodyOf Go.Proofs.Tryd.f173 2) P1173_2 A1173_2 X1173_2 Q1173_2 (R := R) L e x = h1173_2 L e x := by kernel_rfl
theorem m1173_2 : Par fun L e x => h1173_2 L e x := by
  intro A B rel L L' e e' h0 hL he x
  unfold h1173_2
  repeat' (first | exact h0 | exact hL _ | exact he _ | apply rel_cond | (apply rel_obind h0; intro _) | (apply rel_obind2 <;> intro _))
noncomputable def t1173 (w1173_2 : Pat.D P1173_2 → Option (OutT X1173_2 Q1173_2)) (a0 : Den (.slice (.int .u64))) : Option (DenS O1173) :=
  Vx.obind (w1173_2 (((), ((a0.length : Int), ())), (a0, ()))) fun y0 =>
  Vx.obind2 y0 (fun y1 =>
  bif ((decide ((0 : Int) ≤ y1.1.2.1)) && (decide (y1.1.2.1 ≤ (y1.2.1.length : Int)))) then
  (some ((y1.2.1.take (Int.toNat y1.1.2.1)), ()))
  else none) (fun z1 =>
  none)
theorem r1173 (w1173_2 : Pat.D P1173_2 → Option (OutT X1173_2 Q1173_2)) (a0 : Den (.slice (.int .u64))) :
    run { P := Go.Proofs.Tryd.prog, sums := [], loops := [(173, 2, LoopSpec.of P1173_2 A1173_2 X1173_2 Q1173_2 w1173_2)], globs := G1, keep := true } 9 173 Go.Proofs.Tryd.f173 I1173 O1173 (a0, ()) = t1173 w1173_2 a0 := by kernel_rfl
noncomputable def W1173_2 : P1173_2.D → Option (OutT X1173_2 Q1173_2) := lfix fun L => h1173_2 L some
noncomputable def T1173 (x : DenS I1173) : Option (DenS O1173) := t1173 W1173_2 x.1
noncomputable def C1173 : Cfg := { P := Go.Proofs.Tryd.prog, sums := [], loops := [(173, 2, LoopSpec.of P1173_2 A1173_2 X1173_2 Q1173_2 W1173_2)], globs := G1, keep := true }
noncomputable def S1173 : Sum := sumOf I1173 O1173 T1173 (DenS.dflt O1173)
theorem S1173_sound : Sound Go.Proofs.Tryd.prog G1 173 S1173 :=
  fn_sound C1173 9 173 Go.Proofs.Tryd.f173 mixedOk (by kernel_rfl) (by kernel_rfl) (by kernel_rfl) trivial ⟨rfl, fun d => loopOk_of (fun L e x => h1173_2 L e x) (m1173_2) (fun R L e x => s1173_2 W1173_2 d R L e x), trivial⟩ I1173 O1173 T1173 _ fun x => r1173 W1173_2 x.1
/-- vernier/nat.right -/
abbrev I1171 : Sig := [(false, .slice (.int .u64)), (false, .int .i64)]
abbrev O1171 : Sig := [(true, .slice (.int .u64))]
abbrev P1171_7 : Pat := ⟨66, [(25, .one (.v .i64)), (0, .one (.sl (.int .u64))), (5, .one (.v .i64)), (6, .one (.v .i64)), (26, .one (.v .i64)), (7, .one (.own 0))], [.arr (.int .u64)]⟩
abbrev A1171_7 : List (Nat × Shape) := []
abbrev X1171_7 : List (Nat × Pat) := [(0, ⟨66, [(7, .one (.own 0))], [.arr (.int .u64)]⟩)]
abbrev Q1171_7 : Option Pat := none
noncomputable def h1171_7 (p1173 : DenS I1173 → Bool) (f1173 : DenS I1173 → DenS O1173) (p173 : DenS I173 → Bool) (f173 : DenS I173 → DenS O173) {R : Type} (L : Pat.D P1171_7 → Option R) (e : OutT X1171_7 Q1171_7 → Option R) (x : Pat.D P1171_7) : Option R :=
  bif (decide (x.1.2.2.2.2.1 < x.1.1)) then
  (bif ((decide ((0 : Int) ≤ (Go.IntKind.wrap Go.IntKind.i64 (x.1.2.2.1 + x.1.2.2.2.2.1)))) && (decide ((Go.IntKind.wrap Go.IntKind.i64 (x.1.2.2.1 + x.1.2.2.2.2.1)) < (x.1.2.1.length : Int)))) then
  (bif (decide ((0 : Int) ≤ x.1.2.2.2.1)) then
  (bif ((decide ((0 : Int) ≤ x.1.2.2.2.2.1)) && (decide (x.1.2.2.2.2.1 < (x.2.1.length : Int)))) then
  (bif (decide ((Go.IntKind.wrap Go.IntKind.i64 ((Go.IntKind.wrap Go.IntKind.i64 (x.1.2.2.1 + x.1.2.2.2.2.1)) + (1 : Int))) < (x.1.2.1.length : Int))) then
  (bif ((decide ((0 : Int) ≤ x.1.2.2.2.2.1)) && (decide (x.1.2.2.2.2.1 < ((x.2.1.set (Int.toNat x.1.2.2.2.2.1) (Vx.shrI Go.IntKind.u64 (x.1.2.1.getD (Int.toNat (Go.IntKind.wrap Go.IntKind.i64 (x.1.2.2.1 + x.1.2.2.2.2.1))) (0 : Int)) x.1.2.2.2.1)).length : Int)))) then
  (bif ((decide ((0 : Int) ≤ (Go.IntKind.wrap Go.IntKind.i64 ((Go.IntKind.wrap Go.IntKind.i64 (x.1.2.2.1 + x.1.2.2.2.2.1)) + (1 : Int))))) && (decide ((Go.IntKind.wrap Go.IntKind.i64 ((Go.IntKind.wrap Go.IntKind.i64 (x.1.2.2.1 + x.1.2.2.2.2.1)) + (1 : Int))) < (x.1.2.1.length : Int)))) then
  (bif (decide ((0 : Int) ≤ (Go.IntKind.wrap Go.IntKind.i64 ((64 : Int) - x.1.2.2.2.1)))) then
  (bif ((decide ((0 : Int) ≤ x.1.2.2.2.2.1)) && (decide (x.1.2.2.2.2.1 < ((x.2.1.set (Int.toNat x.1.2.2.2.2.1) (Vx.shrI Go.IntKind.u64 (x.1.2.1.getD (Int.toNat (Go.IntKind.wrap Go.IntKind.i64 (x.1.2.2.1 + x.1.2.2.2.2.1))) (0 : Int)) x.1.2.2.2.1)).length : Int)))) then
  ((L ((x.1.1, (x.1.2.1, (x.1.2.2.1, (x.1.2.2.2.1, ((Go.IntKind.wrap Go.IntKind.i64 (x.1.2.2.2.2.1 + (1 : Int))), ((), ())))))), (((x.2.1.set (Int.toNat x.1.2.2.2.2.1) (Vx.shrI Go.IntKind.u64 (x.1.2.1.getD (Int.toNat (Go.IntKind.wrap Go.IntKind.i64 (x.1.2.2.1 + x.1.2.2.2.2.1))) (0 : Int)) x.1.2.2.2.1)).set (Int.toNat x.1.2.2.2.2.1) (Vx.orI Go.IntKind.u64 ((x.2.1.set (Int.toNat x.1.2.2.2.2.1) (Vx.shrI Go.IntKind.u64 (x.1.2.1.getD (Int.toNat (Go.IntKind.wrap Go.IntKind.i64 (x.1.2.2.1 + x.1.2.2.2.2.1))) (0 : Int)) x.1.2.2.2.1)).getD (Int.toNat x.1.2.2.2.2.1) (0 : Int)) (Vx.shlI Go.IntKind.u64 (x.1.2.1.getD (Int.toNat (Go.IntKind.wrap Go.IntKind.i64 ((Go.IntKind.wrap Go.IntKind.i64 (x.1.2.2.1 + x.1.2.2.2.2.1)) + (1 : Int)))) (0 : Int)) (Go.IntKind.wrap Go.IntKind.i64 ((64 : Int) - x.1.2.2.2.1))))), ()))))
  else none)
  else none)
  else none)
  else none)
  else (L ((x.1.1, (x.1.2.1, (x.1.2.2.1, (x.1.2.2.2.1, ((Go.IntKind.wrap Go.IntKind.i64 (x.1.2.2.2.2.1 + (1 : Int))), ((), ())))))), ((x.2.1.set (Int.toNat x.1.2.2.2.2.1) (Vx.shrI Go.IntKind.u64 (x.1.2.1.getD (Int.toNat (Go.IntKind.wrap Go.IntKind.i64 (x.1.2.2.1 + x.1.2.2.2.2.1))) (0 : Int)) x.1.2.2.2.1)), ()))))
  else none)
  else none)
  else none)
  else (e (.inl (((), ()), x.2)))
theorem s1171_7 (p1173 : DenS I1173 → Bool) (f1173 : DenS I1173 → DenS O1173) (p173 : DenS I173 → Bool) (f173 : DenS I173 → DenS O173) (w1171_7 : Pat.D P1171_7 → Option (OutT X1171_7 Q1171_7)) (d : Nat) (R : Type) (L : Pat.D P1171_7 → Option R) (e : OutT X1171_7 Q1171_7 → Option R) (x : Pat.D P1171_7) :
    lStep { P := Go.Proofs.Tryd.prog, sums := [(173, ⟨I1173, O1173, p1173, f1173⟩), (173, ⟨I173, O173, p173, f173⟩)], loops := [(171, 7, LoopSpec.of P1171_7 A1171_7 X1171_7 Q1171_7 w1171_7)], globs := G1, keep := true } (d + 2) 171 (bodyOf Go.Proofs.Tryd.f171 7) P1171_7 A1171_7 X1171_7 Q1171_7 (R := R) L e x = h1171_7 p1173 f1173 p173 f173 L e x := by kernel_rfl
theorem m1171_7 (p1173 : DenS I1173 → Bool) (f1173 : DenS I1173 → DenS O1173) (p173 : DenS I173 → Bool) (f173 : DenS I173 → DenS O173) : Par fun L e x => h1171_7 p1173 f1173 p173 f173 L e x := by
  intro A B rel L L' e e' h0 hL he x
  unfold h1171_7
  repeat' (first | exact h0 | exact hL _ | exact he _ | apply rel_cond | (apply rel_obind h0; intro _) | (apply rel_obind2 <;> intro _))
noncomputable def t1171 (p1173 : DenS I1173 → Bool) (f1173 : DenS I1173 → DenS O1173) (p173 : DenS I173 → Bool) (f173 : DenS I173 → DenS O173) (w1171_7 : Pat.D P1171_7 → Option (OutT X1171_7 Q1171_7)) (a0 : Den (.slice (.int .u64))) (a1 : Den (.int .i64)) : Option (DenS O1171) :=
  bif (p173 (a0, ())) then
  (bif (decide ((Vx.quoI Go.IntKind.i64 a1 (64 : Int)) ≥ ((f173 (a0, ())).1.length : Int))) then
  (some ([], ()))
  else bif ((decide ((0 : Int) ≤ (Go.IntKind.wrap Go.IntKind.i64 (((f173 (a0, ())).1.length : Int) - (Vx.quoI Go.IntKind.i64 a1 (64 : Int)))))) && (decide (((Go.IntKind.wrap Go.IntKind.i64 (((f173 (a0, ())).1.length : Int) - (Vx.quoI Go.IntKind.i64 a1 (64 : Int)))) * (8 : Int)) ≤ (140737488355328 : Int)))) then
  (Vx.obind (w1171_7 ((((List.replicate (Int.toNat (Go.IntKind.wrap Go.IntKind.i64 (((f173 (a0, ())).1.length : Int) - (Vx.quoI Go.IntKind.i64 a1 (64 : Int))))) (0 : Int)).length : Int), ((f173 (a0, ())).1, ((Vx.quoI Go.IntKind.i64 a1 (64 : Int)), ((Int.tmod a1 (64 : Int)), ((0 : Int), ((), ())))))), ((List.replicate (Int.toNat (Go.IntKind.wrap Go.IntKind.i64 (((f173 (a0, ())).1.length : Int) - (Vx.quoI Go.IntKind.i64 a1 (64 : Int))))) (0 : Int)), ()))) fun y3 =>
  Vx.obind2 y3 (fun y4 =>
  bif (p1173 y4.2) then
  (some (f1173 y4.2))
  else none) (fun z4 =>
  none))
  else none)
  else none
theorem r1171 (p1173 : DenS I1173 → Bool) (f1173 : DenS I1173 → DenS O1173) (p173 : DenS I173 → Bool) (f173 : DenS I173 → DenS O173) (w1171_7 : Pat.D P1171_7 → Option (OutT X1171_7 Q1171_7)) (a0 : Den (.slice (.int .u64))) (a1 : Den (.int .i64)) :
    run { P := Go.Proofs.Tryd.prog, sums := [(173, ⟨I1173, O1173, p1173, f1173⟩), (173, ⟨I173, O173, p173, f173⟩)], loops := [(171, 7, LoopSpec.of P1171_7 A1171_7 X1171_7 Q1171_7 w1171_7)], globs := G1, keep := true } 9 171 Go.Proofs.Tryd.f171 I1171 O1171 (a0, a1, ()) = t1171 p1173 f1173 p173 f173 w1171_7 a0 a1 := by kernel_rfl
noncomputable def W1171_7 : P1171_7.D → Option (OutT X1171_7 Q1171_7) := lfix fun L => h1171_7 S1173.pre S1173.F S173.pre S173.F L some
noncomputable def T1171 (x : DenS I1171) : Option (DenS O1171) := t1171 S1173.pre S1173.F S173.pre S173.F W1171_7 x.1 x.2.1
noncomputable def C1171 : Cfg := { P := Go.Proofs.Tryd.prog, sums := [(173, S1173), (173, S173)], loops := [(171, 7, LoopSpec.of P1171_7 A1171_7 X1171_7 Q1171_7 W1171_7)], globs := G1, keep := true }
noncomputable def S1171 : Sum := sumOf I1171 O1171 T1171 (DenS.dflt O1171)
theorem S1171_sound : Sound Go.Proofs.Tryd.prog G1 171 S1171 :=
  fn_sound C1171 9 171 Go.Proofs.Tryd.f171 mixedOk (by kernel_rfl) (by kernel_rfl) (by kernel_rfl) ⟨S1173_sound, ⟨S173_sound, trivial⟩⟩ ⟨rfl, fun d => loopOk_of (fun L e x => h1171_7 S1173.pre S1173.F S173.pre S173.F L e x) (m1171_7 S1173.pre S1173.F S173.pre S173.F) (fun R L e x => s1171_7 S1173.pre S1173.F S173.pre S173.F W1171_7 d R L e x), trivial⟩ I1171 O1171 T1171 _ fun x => r1171 S1173.pre S1173.F S173.pre S173.F W1171_7 x.1 x.2.1
/-- vernier/nat.right -/
abbrev I171 : Sig := [(false, .slice (.int .u64)), (false, .int .i64)]
abbrev O171 : Sig := [(false, .slice (.int .u64))]
abbrev P171_7 : Pat := ⟨66, [(25, .one (.v .i64)), (0, .one (.sl (.int .u64))), (5, .one (.v .i64)), (6, .one (.v .i64)), (26, .one (.v .i64)), (7, .one (.own 0))], [.arr (.int .u64)]⟩
abbrev A171_7 : List (Nat × Shape) := []
abbrev X171_7 : List (Nat × Pat) := [(0, ⟨66, [(7, .one (.own 0))], [.arr (.int .u64)]⟩)]
abbrev Q171_7 : Option Pat := none
noncomputable def h171_7 (p173 : DenS I173 → Bool) (f173 : DenS I173 → DenS O173) {R : Type} (L : Pat.D P171_7 → Option R) (e : OutT X171_7 Q171_7 → Option R) (x : Pat.D P171_7) : Option R :=
  bif (decide (x.1.2.2.2.2.1 < x.1.1)) then
  (bif ((decide ((0 : Int) ≤ (Go.IntKind.wrap Go.IntKind.i64 (x.1.2.2.1 + x.1.2.2.2.2.1)))) && (decide ((Go.IntKind.wrap Go.IntKind.i64 (x.1.2.2.1 + x.1.2.2.2.2.1)) < (x.1.2.1.length : Int)))) then
  (bif (decide ((0 : Int) ≤ x.1.2.2.2.1)) then
  (bif ((decide ((0 : Int) ≤ x.1.2.2.2.2.1)) && (decide (x.1.2.2.2.2.1 < (x.2.1.length : Int)))) then
  (bif (decide ((Go.IntKind.wrap Go.IntKind.i64 ((Go.IntKind.wrap Go.IntKind.i64 (x.1.2.2.1 + x.1.2.2.2.2.1)) + (1 : Int))) < (x.1.2.1.length : Int))) then
  (bif ((decide ((0 : Int) ≤ x.1.2.2.2.2.1)) && (decide (x.1.2.2.2.2.1 < ((x.2.1.set (Int.toNat x.1.2.2.2.2.1) (Vx.shrI Go.IntKind.u64 (x.1.2.1.getD (Int.toNat (Go.IntKind.wrap Go.IntKind.i64 (x.1.2.2.1 + x.1.2.2.2.2.1))) (0 : Int)) x.1.2.2.2.1)).length : Int)))) then
  (bif ((decide ((0 : Int) ≤ (Go.IntKind.wrap Go.IntKind.i64 ((Go.IntKind.wrap Go.IntKind.i64 (x.1.2.2.1 + x.1.2.2.2.2.1)) + (1 : Int))))) && (decide ((Go.IntKind.wrap Go.IntKind.i64 ((Go.IntKind.wrap Go.IntKind.i64 (x.1.2.2.1 + x.1.2.2.2.2.1)) + (1 : Int))) < (x.1.2.1.length : Int)))) then
  (bif (decide ((0 : Int) ≤ (Go.IntKind.wrap Go.IntKind.i64 ((64 : Int) - x.1.2.2.2.1)))) then
  (bif ((decide ((0 : Int) ≤ x.1.2.2.2.2.1)) && (decide (x.1.2.2.2.2.1 < ((x.2.1.set (Int.toNat x.1.2.2.2.2.1) (Vx.shrI Go.IntKind.u64 (x.1.2.1.getD (Int.toNat (Go.IntKind.wrap Go.IntKind.i64 (x.1.2.2.1 + x.1.2.2.2.2.1))) (0 : Int)) x.1.2.2.2.1)).length : Int)))) then
  ((L ((x.1.1, (x.1.2.1, (x.1.2.2.1, (x.1.2.2.2.1, ((Go.IntKind.wrap Go.IntKind.i64 (x.1.2.2.2.2.1 + (1 : Int))), ((), ())))))), (((x.2.1.set (Int.toNat x.1.2.2.2.2.1) (Vx.shrI Go.IntKind.u64 (x.1.2.1.getD (Int.toNat (Go.IntKind.wrap Go.IntKind.i64 (x.1.2.2.1 + x.1.2.2.2.2.1))) (0 : Int)) x.1.2.2.2.1)).set (Int.toNat x.1.2.2.2.2.1) (Vx.orI Go.IntKind.u64 ((x.2.1.set (Int.toNat x.1.2.2.2.2.1) (Vx.shrI Go.IntKind.u64 (x.1.2.1.getD (Int.toNat (Go.IntKind.wrap Go.IntKind.i64 (x.1.2.2.1 + x.1.2.2.2.2.1))) (0 : Int)) x.1.2.2.2.1)).getD (Int.toNat x.1.2.2.2.2.1) (0 : Int)) (Vx.shlI Go.IntKind.u64 (x.1.2.1.getD (Int.toNat (Go.IntKind.wrap Go.IntKind.i64 ((Go.IntKind.wrap Go.IntKind.i64 (x.1.2.2.1 + x.1.2.2.2.2.1)) + (1 : Int)))) (0 : Int)) (Go.IntKind.wrap Go.IntKind.i64 ((64 : Int) - x.1.2.2.2.1))))), ()))))
  else none)
  else none)
  else none)
  else none)
  else (L ((x.1.1, (x.1.2.1, (x.1.2.2.1, (x.1.2.2.2.1, ((Go.IntKind.wrap Go.IntKind.i64 (x.1.2.2.2.2.1 + (1 : Int))), ((), ())))))), ((x.2.1.set (Int.toNat x.1.2.2.2.2.1) (Vx.shrI Go.IntKind.u64 (x.1.2.1.getD (Int.toNat (Go.IntKind.wrap Go.IntKind.i64 (x.1.2.2.1 + x.1.2.2.2.2.1))) (0 : Int)) x.1.2.2.2.1)), ()))))
  else none)
  else none)
  else none)
  else (e (.inl (((), ()), x.2)))
theorem s171_7 (p173 : DenS I173 → Bool) (f173 : DenS I173 → DenS O173) (w171_7 : Pat.D P171_7 → Option (OutT X171_7 Q171_7)) (d : Nat) (R : Type) (L : Pat.D P171_7 → Option R) (e : OutT X171_7 Q171_7 → Option R) (x : Pat.D P171_7) :
    lStep { P := Go.Proofs.Tryd.prog, sums := [(173, ⟨I173, O173, p173, f173⟩)], loops := [(171, 7, LoopSpec.of P171_7 A171_7 X171_7 Q171_7 w171_7)], globs := G1 } (d + 2) 171 (bodyOf Go.Proofs.Tryd.f171 7) P171_7 A171_7 X171_7 Q171_7 (R := R) L e x = h171_7 p173 f173 L e x := by kernel_rfl
theorem m171_7 (p173 : DenS I173 → Bool) (f173 : DenS I173 → DenS O173) : Par fun L e x => h171_7 p173 f173 L e x := by
  intro A B rel L L' e e' h0 hL he x
  unfold h171_7
  repeat' (first | exact h0 | exact hL _ | exact he _ | apply rel_cond | (apply rel_obind h0; intro _) | (apply rel_obind2 <;> intro _))
noncomputable def t171 (p173 : DenS I173 → Bool) (f173 : DenS I173 → DenS O173) (w171_7 : Pat.D P171_7 → Option (OutT X171_7 Q171_7)) (a0 : Den (.slice (.int .u64))) (a1 : Den (.int .i64)) : Option (DenS O171) :=
  bif (p173 (a0, ())) then
  (bif (decide ((Vx.quoI Go.IntKind.i64 a1 (64 : Int)) ≥ ((f173 (a0, ())).1.length : Int))) then
  (some ([], ()))
  else bif ((decide ((0 : Int) ≤ (Go.IntKind.wrap Go.IntKind.i64 (((f173 (a0, ())).1.length : Int) - (Vx.quoI Go.IntKind.i64 a1 (64 : Int)))))) && (decide (((Go.IntKind.wrap Go.IntKind.i64 (((f173 (a0, ())).1.length : Int) - (Vx.quoI Go.IntKind.i64 a1 (64 : Int)))) * (8 : Int)) ≤ (140737488355328 : Int)))) then
  (Vx.obind (w171_7 ((((List.replicate (Int.toNat (Go.IntKind.wrap Go.IntKind.i64 (((f173 (a0, ())).1.length : Int) - (Vx.quoI Go.IntKind.i64 a1 (64 : Int))))) (0 : Int)).length : Int), ((f173 (a0, ())).1, ((Vx.quoI Go.IntKind.i64 a1 (64 : Int)), ((Int.tmod a1 (64 : Int)), ((0 : Int), ((), ())))))), ((List.replicate (Int.toNat (Go.IntKind.wrap Go.IntKind.i64 (((f173 (a0, ())).1.length : Int) - (Vx.quoI Go.IntKind.i64 a1 (64 : Int))))) (0 : Int)), ()))) fun y3 =>
  Vx.obind2 y3 (fun y4 =>
  bif (p173 y4.2) then
  (some (f173 y4.2))
  else none) (fun z4 =>
  none))
  else none)
  else none
theorem r171 (p173 : DenS I173 → Bool) (f173 : DenS I173 → DenS O173) (w171_7 : Pat.D P171_7 → Option (OutT X171_7 Q171_7)) (a0 : Den (.slice (.int .u64))) (a1 : Den (.int .i64)) :
    run { P := Go.Proofs.Tryd.prog, sums := [(173, ⟨I173, O173, p173, f173⟩)], loops := [(171, 7, LoopSpec.of P171_7 A171_7 X171_7 Q171_7 w171_7)], globs := G1 } 9 171 Go.Proofs.Tryd.f171 I171 O171 (a0, a1, ()) = t171 p173 f173 w171_7 a0 a1 := by kernel_rfl
noncomputable def W171_7 : P171_7.D → Option (OutT X171_7 Q171_7) := lfix fun L => h171_7 S173.pre S173.F L some
noncomputable def T171 (x : DenS I171) : Option (DenS O171) := t171 S173.pre S173.F W171_7 x.1 x.2.1
noncomputable def C171 : Cfg := { P := Go.Proofs.Tryd.prog, sums := [(173, S173)], loops := [(171, 7, LoopSpec.of P171_7 A171_7 X171_7 Q171_7 W171_7)], globs := G1 }
noncomputable def S171 : Sum := sumOf I171 O171 T171 (DenS.dflt O171)
theorem S171_sound : Sound Go.Proofs.Tryd.prog G1 171 S171 :=
  fn_sound C171 9 171 Go.Proofs.Tryd.f171 mixedOk (by kernel_rfl) (by kernel_rfl) (by kernel_rfl) ⟨S173_sound, trivial⟩ ⟨rfl, fun d => loopOk_of (fun L e x => h171_7 S173.pre S173.F L e x) (m171_7 S173.pre S173.F) (fun R L e x => s171_7 S173.pre S173.F W171_7 d R L e x), trivial⟩ I171 O171 T171 _ fun x => r171 S173.pre S173.F W171_7 x.1 x.2.1
/-- math/bits.TrailingZeros64 -/
abbrev I92 : Sig := [(false, .int .u64)]
abbrev O92 : Sig := [(false, .int .i64)]
noncomputable def t92 (a0 : Den (.int .u64)) : Option (DenS O92) :=
  bif (a0 == (0 : Int)) then
  (some ((64 : Int), ()))
  else bif (Vx.sealB ((decide ((0 : Int) ≤ (Vx.shrI Go.IntKind.u64 (Go.IntKind.wrap Go.IntKind.u64 ((Vx.andI Go.IntKind.u64 a0 (Go.IntKind.wrap Go.IntKind.u64 ((0 : Int) - a0))) * (285870213051353865 : Int))) (58 : Int)))) && (decide ((Vx.shrI Go.IntKind.u64 (Go.IntKind.wrap Go.IntKind.u64 ((Vx.andI Go.IntKind.u64 a0 (Go.IntKind.wrap Go.IntKind.u64 ((0 : Int) - a0))) * (285870213051353865 : Int))) (58 : Int)) < ((64 : Nat) : Int))))) then
  (some ((Go.IntKind.wrap Go.IntKind.i64 (Vx.k_deb.getD (Int.toNat (Vx.shrI Go.IntKind.u64 (Go.IntKind.wrap Go.IntKind.u64 ((Vx.andI Go.IntKind.u64 a0 (Go.IntKind.wrap Go.IntKind.u64 ((0 : Int) - a0))) * (285870213051353865 : Int))) (58 : Int))) (0 : Int))), ()))
  else none
theorem r92 (a0 : Den (.int .u64)) :
    run { P := Go.Proofs.Tryd.prog, sums := [], loops := [], globs := G1 } 9 92 Go.Proofs.Tryd.f92 I92 O92 (a0, ()) = t92 a0 := by kernel_rfl
noncomputable def T92 (x : DenS I92) : Option (DenS O92) := t92 x.1
noncomputable def C92 : Cfg := { P := Go.Proofs.Tryd.prog, sums := [], loops := [], globs := G1 }
noncomputable def S92 : Sum := sumOf I92 O92 T92 (DenS.dflt O92)
theorem S92_sound : Sound Go.Proofs.Tryd.prog G1 92 S92 :=
  fn_sound C92 9 92 Go.Proofs.Tryd.f92 mixedOk (by kernel_rfl) (by kernel_rfl) (by kernel_rfl) trivial trivial I92 O92 T92 _ fun x => r92 x.1
/-- vernier/nat.divides -/
abbrev I184 : Sig := [(false, .slice (.int .u64)), (false, .int .i64)]
abbrev O184 : Sig := [(false, .bool)]
abbrev P184_2 : Pat := ⟨25, [(9, .one (.v .i64)), (8, .one (.sl (.int .u64))), (1, .one (.v .i64)), (10, .one (.v .i64))], []⟩
abbrev A184_2 : List (Nat × Shape) := []
abbrev X184_2 : List (Nat × Pat) := [(0, ⟨25, [], []⟩)]
abbrev Q184_2 : Option Pat := (some ⟨25, [(4, .one (.bool))], []⟩)
noncomputable def h184_2 (p173 : DenS I173 → Bool) (f173 : DenS I173 → DenS O173) (p92 : DenS I92 → Bool) (f92 : DenS I92 → DenS O92) {R : Type} (L : Pat.D P184_2 → Option R) (e : OutT X184_2 Q184_2 → Option R) (x : Pat.D P184_2) : Option R :=
  bif (decide (x.1.2.2.2.1 < x.1.1)) then
  (bif ((decide ((0 : Int) ≤ x.1.2.2.2.1)) && (decide (x.1.2.2.2.1 < (x.1.2.1.length : Int)))) then
  (bif ((x.1.2.1.getD (Int.toNat x.1.2.2.2.1) (0 : Int)) != (0 : Int)) then
  (bif (p92 ((x.1.2.1.getD (Int.toNat x.1.2.2.2.1) (0 : Int)), ())) then
  ((e (.inr (((decide ((Go.IntKind.wrap Go.IntKind.i64 ((Go.IntKind.wrap Go.IntKind.i64 ((64 : Int) * x.1.2.2.2.1)) + (f92 ((x.1.2.1.getD (Int.toNat x.1.2.2.2.1) (0 : Int)), ())).1)) ≥ x.1.2.2.1)), ()), ()))))
  else none)
  else (L ((x.1.1, (x.1.2.1, (x.1.2.2.1, ((Go.IntKind.wrap Go.IntKind.i64 (x.1.2.2.2.1 + (1 : Int))), ())))), ())))
  else none)
  else (e (.inl ((), ())))
theorem s184_2 (p173 : DenS I173 → Bool) (f173 : DenS I173 → DenS O173) (p92 : DenS I92 → Bool) (f92 : DenS I92 → DenS O92) (w184_2 : Pat.D P184_2 → Option (OutT X184_2 Q184_2)) (d : Nat) (R : Type) (L : Pat.D P184_2 → Option R) (e : OutT X184_2 Q184_2 → Option R) (x : Pat.D P184_2) :
    lStep { P := Go.Proofs.Tryd.prog, sums := [(173, ⟨I173, O173, p173, f173⟩), (92, ⟨I92, O92, p92, f92⟩)], loops := [(184, 2, LoopSpec.of P184_2 A184_2 X184_2 Q184_2 w184_2)], globs := G1 } (d + 2) 184 (bodyOf Go.Proofs.Tryd.f184 2) P184_2 A184_2 X184_2 Q184_2 (R := R) L e x = h184_2 p173 f173 p92 f92 L e x := by kernel_rfl
theorem m184_2 (p173 : DenS I173 → Bool) (f173 : DenS I173 → DenS O173) (p92 : DenS I92 → Bool) (f92 : DenS I92 → DenS O92) : Par fun L e x => h184_2 p173 f173 p92 f92 L e x := by
  intro A B rel L L' e e' h0 hL he x
  unfold h184_2
  repeat' (first | exact h0 | exact hL _ | exact he _ | apply rel_cond | (apply rel_obind h0; intro _) | (apply rel_obind2 <;> intro _))
noncomputable def t184 (p173 : DenS I173 → Bool) (f173 : DenS I173 → DenS O173) (p92 : DenS I92 → Bool) (f92 : DenS I92 → DenS O92) (w184_2 : Pat.D P184_2 → Option (OutT X184_2 Q184_2)) (a0 : Den (.slice (.int .u64))) (a1 : Den (.int .i64)) : Option (DenS O184) :=
  bif (p173 (a0, ())) then
  (Vx.obind (w184_2 ((((f173 (a0, ())).1.length : Int), ((f173 (a0, ())).1, (a1, ((0 : Int), ())))), ())) fun y1 =>
  Vx.obind2 y1 (fun y2 =>
  some (true, ())) (fun z2 =>
  some z2.1))
  else none
theorem r184 (p173 : DenS I173 → Bool) (f173 : DenS I173 → DenS O173) (p92 : DenS I92 → Bool) (f92 : DenS I92 → DenS O92) (w184_2 : Pat.D P184_2 → Option (OutT X184_2 Q184_2)) (a0 : Den (.slice (.int .u64))) (a1 : Den (.int .i64)) :
    run { P := Go.Proofs.Tryd.prog, sums := [(173, ⟨I173, O173, p173, f173⟩), (92, ⟨I92, O92, p92, f92⟩)], loops := [(184, 2, LoopSpec.of P184_2 A184_2 X184_2 Q184_2 w184_2)], globs := G1 } 9 184 Go.Proofs.Tryd.f184 I184 O184 (a0, a1, ()) = t184 p173 f173 p92 f92 w184_2 a0 a1 := by kernel_rfl
noncomputable def W184_2 : P184_2.D → Option (OutT X184_2 Q184_2) := lfix fun L => h184_2 S173.pre S173.F S92.pre S92.F L some
noncomputable def T184 (x : DenS I184) : Option (DenS O184) := t184 S173.pre S173.F S92.pre S92.F W184_2 x.1 x.2.1
noncomputable def C184 : Cfg := { P := Go.Proofs.Tryd.prog, sums := [(173, S173), (92, S92)], loops := [(184, 2, LoopSpec.of P184_2 A184_2 X184_2 Q184_2 W184_2)], globs := G1 }
noncomputable def S184 : Sum := sumOf I184 O184 T184 (DenS.dflt O184)
theorem S184_sound : Sound Go.Proofs.Tryd.prog G1 184 S184 :=
  fn_sound C184 9 184 Go.Proofs.Tryd.f184 mixedOk (by kernel_rfl) (by kernel_rfl) (by kernel_rfl) ⟨S173_sound, ⟨S92_sound, trivial⟩⟩ ⟨rfl, fun d => loopOk_of (fun L e x => h184_2 S173.pre S173.F S92.pre S92.F L e x) (m184_2 S173.pre S173.F S92.pre S92.F) (fun R L e x => s184_2 S173.pre S173.F S92.pre S92.F W184_2 d R L e x), trivial⟩ I184 O184 T184 _ fun x => r184 S173.pre S173.F S92.pre S92.F W184_2 x.1 x.2.1
/-- vernier/nat.Jam -/
abbrev I175 : Sig := [(false, .slice (.int .u64)), (false, .int .i64)]
abbrev O175 : Sig := [(false, .slice (.int .u64)), (false, .int .i64)]
noncomputable def t175 (p1171 : DenS I1171 → Bool) (f1171 : DenS I1171 → DenS O1171) (p171 : DenS I171 → Bool) (f171 : DenS I171 → DenS O171) (p184 : DenS I184 → Bool) (f184 : DenS I184 → DenS O184) (a0 : Den (.slice (.int .u64))) (a1 : Den (.int .i64)) : Option (DenS O175) :=
  bif (decide (a1 < (0 : Int))) then
  (some ([], ((7 : Int), ())))
  else bif (p1171 (a0, (a1, ()))) then
  (bif (p184 (a0, (a1, ()))) then
  (bif (!(f184 (a0, (a1, ()))).1) then
  (bif (((f1171 (a0, (a1, ()))).1.length : Int) == (0 : Int)) then
  (some (((1 : Int) :: []), ((0 : Int), ())))
  else bif (decide ((0 : Int) < ((f1171 (a0, (a1, ()))).1.length : Int))) then
  (bif (decide ((0 : Int) < ((f1171 (a0, (a1, ()))).1.length : Int))) then
  (some (((f1171 (a0, (a1, ()))).1.set (Int.toNat (0 : Int)) (Vx.orI Go.IntKind.u64 ((f1171 (a0, (a1, ()))).1.getD (Int.toNat (0 : Int)) (0 : Int)) (1 : Int))), ((0 : Int), ())))
  else none)
  else none)
  else some ((f1171 (a0, (a1, ()))).1, ((0 : Int), ())))
  else none)
  else none
theorem r175 (p1171 : DenS I1171 → Bool) (f1171 : DenS I1171 → DenS O1171) (p171 : DenS I171 → Bool) (f171 : DenS I171 → DenS O171) (p184 : DenS I184 → Bool) (f184 : DenS I184 → DenS O184) (a0 : Den (.slice (.int .u64))) (a1 : Den (.int .i64)) :
    run { P := Go.Proofs.Tryd.prog, sums := [(171, ⟨I1171, O1171, p1171, f1171⟩), (171, ⟨I171, O171, p171, f171⟩), (184, ⟨I184, O184, p184, f184⟩)], loops := [], globs := G1 } 9 175 Go.Proofs.Tryd.f175 I175 O175 (a0, a1, ()) = t175 p1171 f1171 p171 f171 p184 f184 a0 a1 := by kernel_rfl
noncomputable def T175 (x : DenS I175) : Option (DenS O175) := t175 S1171.pre S1171.F S171.pre S171.F S184.pre S184.F x.1 x.2.1
noncomputable def C175 : Cfg := { P := Go.Proofs.Tryd.prog, sums := [(171, S1171), (171, S171), (184, S184)], loops := [], globs := G1 }
noncomputable def S175 : Sum := sumOf I175 O175 T175 (DenS.dflt O175)
theorem S175_sound : Sound Go.Proofs.Tryd.prog G1 175 S175 :=
  fn_sound C175 9 175 Go.Proofs.Tryd.f175 mixedOk (by kernel_rfl) (by kernel_rfl) (by kernel_rfl) ⟨S1171_sound, ⟨S171_sound, ⟨S184_sound, trivial⟩⟩⟩ trivial I175 O175 T175 _ fun x => r175 S1171.pre S1171.F S171.pre S171.F S184.pre S184.F x.1 x.2.1
/-- vernier/nat.left -/
abbrev I186 : Sig := [(false, .slice (.int .u64)), (false, .int .i64)]
abbrev O186 : Sig := [(false, .slice (.int .u64))]
abbrev P186_7 : Pat := ⟨56, [(26, .one (.v .i64)), (25, .one (.sl (.int .u64))), (5, .one (.v .i64)), (6, .one (.v .i64)), (27, .one (.v .i64)), (7, .one (.own 0))], [.arr (.int .u64)]⟩
abbrev A186_7 : List (Nat × Shape) := []
abbrev X186_7 : List (Nat × Pat) := [(0, ⟨56, [(7, .one (.own 0))], [.arr (.int .u64)]⟩)]
abbrev Q186_7 : Option Pat := none
noncomputable def h186_7 (p173 : DenS I173 → Bool) (f173 : DenS I173 → DenS O173) {R : Type} (L : Pat.D P186_7 → Option R) (e : OutT X186_7 Q186_7 → Option R) (x : Pat.D P186_7) : Option R :=
  bif (decide (x.1.2.2.2.2.1 < x.1.1)) then
  (bif ((decide ((0 : Int) ≤ x.1.2.2.2.2.1)) && (decide (x.1.2.2.2.2.1 < (x.1.2.1.length : Int)))) then
  (bif ((decide ((0 : Int) ≤ (Go.IntKind.wrap Go.IntKind.i64 (x.1.2.2.1 + x.1.2.2.2.2.1)))) && (decide ((Go.IntKind.wrap Go.IntKind.i64 (x.1.2.2.1 + x.1.2.2.2.2.1)) < (x.2.1.length : Int)))) then
  (bif (decide ((0 : Int) ≤ x.1.2.2.2.1)) then
  (bif ((decide ((0 : Int) ≤ (Go.IntKind.wrap Go.IntKind.i64 (x.1.2.2.1 + x.1.2.2.2.2.1)))) && (decide ((Go.IntKind.wrap Go.IntKind.i64 (x.1.2.2.1 + x.1.2.2.2.2.1)) < (x.2.1.length : Int)))) then
  (bif (decide ((0 : Int) ≤ (Go.IntKind.wrap Go.IntKind.i64 ((64 : Int) - x.1.2.2.2.1)))) then
  (bif ((decide ((0 : Int) ≤ (Go.IntKind.wrap Go.IntKind.i64 ((Go.IntKind.wrap Go.IntKind.i64 (x.1.2.2.1 + x.1.2.2.2.2.1)) + (1 : Int))))) && (decide ((Go.IntKind.wrap Go.IntKind.i64 ((Go.IntKind.wrap Go.IntKind.i64 (x.1.2.2.1 + x.1.2.2.2.2.1)) + (1 : Int))) < ((x.2.1.set (Int.toNat (Go.IntKind.wrap Go.IntKind.i64 (x.1.2.2.1 + x.1.2.2.2.2.1))) (Vx.orI Go.IntKind.u64 (x.2.1.getD (Int.toNat (Go.IntKind.wrap Go.IntKind.i64 (x.1.2.2.1 + x.1.2.2.2.2.1))) (0 : Int)) (Vx.shlI Go.IntKind.u64 (x.1.2.1.getD (Int.toNat x.1.2.2.2.2.1) (0 : Int)) x.1.2.2.2.1))).length : Int)))) then
  ((L ((x.1.1, (x.1.2.1, (x.1.2.2.1, (x.1.2.2.2.1, ((Go.IntKind.wrap Go.IntKind.i64 (x.1.2.2.2.2.1 + (1 : Int))), ((), ())))))), (((x.2.1.set (Int.toNat (Go.IntKind.wrap Go.IntKind.i64 (x.1.2.2.1 + x.1.2.2.2.2.1))) (Vx.orI Go.IntKind.u64 (x.2.1.getD (Int.toNat (Go.IntKind.wrap Go.IntKind.i64 (x.1.2.2.1 + x.1.2.2.2.2.1))) (0 : Int)) (Vx.shlI Go.IntKind.u64 (x.1.2.1.getD (Int.toNat x.1.2.2.2.2.1) (0 : Int)) x.1.2.2.2.1))).set (Int.toNat (Go.IntKind.wrap Go.IntKind.i64 ((Go.IntKind.wrap Go.IntKind.i64 (x.1.2.2.1 + x.1.2.2.2.2.1)) + (1 : Int)))) (Vx.shrI Go.IntKind.u64 (x.1.2.1.getD (Int.toNat x.1.2.2.2.2.1) (0 : Int)) (Go.IntKind.wrap Go.IntKind.i64 ((64 : Int) - x.1.2.2.2.1)))), ()))))
  else none)
  else none)
  else none)
  else none)
  else none)
  else none)
  else (e (.inl (((), ()), x.2)))
theorem s186_7 (p173 : DenS I173 → Bool) (f173 : DenS I173 → DenS O173) (w186_7 : Pat.D P186_7 → Option (OutT X186_7 Q186_7)) (d : Nat) (R : Type) (L : Pat.D P186_7 → Option R) (e : OutT X186_7 Q186_7 → Option R) (x : Pat.D P186_7) :
    lStep { P := Go.Proofs.Tryd.prog, sums := [(173, ⟨I173, O173, p173, f173⟩)], loops := [(186, 7, LoopSpec.of P186_7 A186_7 X186_7 Q186_7 w186_7)], globs := G1 } (d + 2) 186 (bodyOf Go.Proofs.Tryd.f186 7) P186_7 A186_7 X186_7 Q186_7 (R := R) L e x = h186_7 p173 f173 L e x := by kernel_rfl
theorem m186_7 (p173 : DenS I173 → Bool) (f173 : DenS I173 → DenS O173) : Par fun L e x => h186_7 p173 f173 L e x := by
  intro A B rel L L' e e' h0 hL he x
  unfold h186_7
  repeat' (first | exact h0 | exact hL _ | exact he _ | apply rel_cond | (apply rel_obind h0; intro _) | (apply rel_obind2 <;> intro _))
noncomputable def t186 (p173 : DenS I173 → Bool) (f173 : DenS I173 → DenS O173) (w186_7 : Pat.D P186_7 → Option (OutT X186_7 Q186_7)) (a0 : Den (.slice (.int .u64))) (a1 : Den (.int .i64)) : Option (DenS O186) :=
  bif (p173 (a0, ())) then
  (bif (((f173 (a0, ())).1.length : Int) == (0 : Int)) then
  (some ([], ()))
  else bif ((decide ((0 : Int) ≤ (Go.IntKind.wrap Go.IntKind.i64 ((Go.IntKind.wrap Go.IntKind.i64 ((Vx.quoI Go.IntKind.i64 a1 (64 : Int)) + ((f173 (a0, ())).1.length : Int))) + (1 : Int))))) && (decide (((Go.IntKind.wrap Go.IntKind.i64 ((Go.IntKind.wrap Go.IntKind.i64 ((Vx.quoI Go.IntKind.i64 a1 (64 : Int)) + ((f173 (a0, ())).1.length : Int))) + (1 : Int))) * (8 : Int)) ≤ (140737488355328 : Int)))) then
  (Vx.obind (w186_7 ((((f173 (a0, ())).1.length : Int), ((f173 (a0, ())).1, ((Vx.quoI Go.IntKind.i64 a1 (64 : Int)), ((Int.tmod a1 (64 : Int)), ((0 : Int), ((), ())))))), ((List.replicate (Int.toNat (Go.IntKind.wrap Go.IntKind.i64 ((Go.IntKind.wrap Go.IntKind.i64 ((Vx.quoI Go.IntKind.i64 a1 (64 : Int)) + ((f173 (a0, ())).1.length : Int))) + (1 : Int)))) (0 : Int)), ()))) fun y3 =>
  Vx.obind2 y3 (fun y4 =>
  bif (p173 y4.2) then
  (some (f173 y4.2))
  else none) (fun z4 =>
  none))
  else none)
  else none
theorem r186 (p173 : DenS I173 → Bool) (f173 : DenS I173 → DenS O173) (w186_7 : Pat.D P186_7 → Option (OutT X186_7 Q186_7)) (a0 : Den (.slice (.int .u64))) (a1 : Den (.int .i64)) :
    run { P := Go.Proofs.Tryd.prog, sums := [(173, ⟨I173, O173, p173, f173⟩)], loops := [(186, 7, LoopSpec.of P186_7 A186_7 X186_7 Q186_7 w186_7)], globs := G1 } 9 186 Go.Proofs.Tryd.f186 I186 O186 (a0, a1, ()) = t186 p173 f173 w186_7 a0 a1 := by kernel_rfl
noncomputable def W186_7 : P186_7.D → Option (OutT X186_7 Q186_7) := lfix fun L => h186_7 S173.pre S173.F L some
noncomputable def T186 (x : DenS I186) : Option (DenS O186) := t186 S173.pre S173.F W186_7 x.1 x.2.1
noncomputable def C186 : Cfg := { P := Go.Proofs.Tryd.prog, sums := [(173, S173)], loops := [(186, 7, LoopSpec.of P186_7 A186_7 X186_7 Q186_7 W186_7)], globs := G1 }
noncomputable def S186 : Sum := sumOf I186 O186 T186 (DenS.dflt O186)
theorem S186_sound : Sound Go.Proofs.Tryd.prog G1 186 S186 :=
  fn_sound C186 9 186 Go.Proofs.Tryd.f186 mixedOk (by kernel_rfl) (by kernel_rfl) (by kernel_rfl) ⟨S173_sound, trivial⟩ ⟨rfl, fun d => loopOk_of (fun L e x => h186_7 S173.pre S173.F L e x) (m186_7 S173.pre S173.F) (fun R L e x => s186_7 S173.pre S173.F W186_7 d R L e x), trivial⟩ I186 O186 T186 _ fun x => r186 S173.pre S173.F W186_7 x.1 x.2.1
/-- vernier/nat.great -/
abbrev I185 : Sig := [(false, .slice (.slice (.int .u64)))]
abbrev O185 : Sig := [(false, .bool)]
abbrev P185_2 : Pat := ⟨16, [(6, .one (.v .i64)), (5, .one (.sl (.slice (.int .u64)))), (7, .one (.v .i64))], []⟩
abbrev A185_2 : List (Nat × Shape) := []
abbrev X185_2 : List (Nat × Pat) := [(0, ⟨16, [], []⟩)]
abbrev Q185_2 : Option Pat := (some ⟨16, [(2, .one (.bool))], []⟩)
noncomputable def h185_2 (p173 : DenS I173 → Bool) (f173 : DenS I173 → DenS O173) {R : Type} (L : Pat.D P185_2 → Option R) (e : OutT X185_2 Q185_2 → Option R) (x : Pat.D P185_2) : Option R :=
  bif (decide (x.1.2.2.1 < x.1.1)) then
  (bif ((decide ((0 : Int) ≤ x.1.2.2.1)) && (decide (x.1.2.2.1 < (x.1.2.1.length : Int)))) then
  (bif (p173 ((x.1.2.1.getD (Int.toNat x.1.2.2.1) []), ())) then
  (bif (decide (((f173 ((x.1.2.1.getD (Int.toNat x.1.2.2.1) []), ())).1.length : Int) > (1024 : Int))) then
  ((e (.inr ((true, ()), ()))))
  else (L ((x.1.1, (x.1.2.1, ((Go.IntKind.wrap Go.IntKind.i64 (x.1.2.2.1 + (1 : Int))), ()))), ())))
  else none)
  else none)
  else (e (.inl ((), ())))
theorem s185_2 (p173 : DenS I173 → Bool) (f173 : DenS I173 → DenS O173) (w185_2 : Pat.D P185_2 → Option (OutT X185_2 Q185_2)) (d : Nat) (R : Type) (L : Pat.D P185_2 → Option R) (e : OutT X185_2 Q185_2 → Option R) (x : Pat.D P185_2) :
    lStep { P := Go.Proofs.Tryd.prog, sums := [(173, ⟨I173, O173, p173, f173⟩)], loops := [(185, 2, LoopSpec.of P185_2 A185_2 X185_2 Q185_2 w185_2)], globs := G1 } (d + 2) 185 (bodyOf Go.Proofs.Tryd.f185 2) P185_2 A185_2 X185_2 Q185_2 (R := R) L e x = h185_2 p173 f173 L e x := by kernel_rfl
theorem m185_2 (p173 : DenS I173 → Bool) (f173 : DenS I173 → DenS O173) : Par fun L e x => h185_2 p173 f173 L e x := by
  intro A B rel L L' e e' h0 hL he x
  unfold h185_2
  repeat' (first | exact h0 | exact hL _ | exact he _ | apply rel_cond | (apply rel_obind h0; intro _) | (apply rel_obind2 <;> intro _))
noncomputable def t185 (p173 : DenS I173 → Bool) (f173 : DenS I173 → DenS O173) (w185_2 : Pat.D P185_2 → Option (OutT X185_2 Q185_2)) (a0 : Den (.slice (.slice (.int .u64)))) : Option (DenS O185) :=
  Vx.obind (w185_2 (((a0.length : Int), (a0, ((0 : Int), ()))), ())) fun y0 =>
  Vx.obind2 y0 (fun y1 =>
  some (false, ())) (fun z1 =>
  some z1.1)
theorem r185 (p173 : DenS I173 → Bool) (f173 : DenS I173 → DenS O173) (w185_2 : Pat.D P185_2 → Option (OutT X185_2 Q185_2)) (a0 : Den (.slice (.slice (.int .u64)))) :
    run { P := Go.Proofs.Tryd.prog, sums := [(173, ⟨I173, O173, p173, f173⟩)], loops := [(185, 2, LoopSpec.of P185_2 A185_2 X185_2 Q185_2 w185_2)], globs := G1 } 9 185 Go.Proofs.Tryd.f185 I185 O185 (a0, ()) = t185 p173 f173 w185_2 a0 := by kernel_rfl
noncomputable def W185_2 : P185_2.D → Option (OutT X185_2 Q185_2) := lfix fun L => h185_2 S173.pre S173.F L some
noncomputable def T185 (x : DenS I185) : Option (DenS O185) := t185 S173.pre S173.F W185_2 x.1
noncomputable def C185 : Cfg := { P := Go.Proofs.Tryd.prog, sums := [(173, S173)], loops := [(185, 2, LoopSpec.of P185_2 A185_2 X185_2 Q185_2 W185_2)], globs := G1 }
noncomputable def S185 : Sum := sumOf I185 O185 T185 (DenS.dflt O185)
theorem S185_sound : Sound Go.Proofs.Tryd.prog G1 185 S185 :=
  fn_sound C185 9 185 Go.Proofs.Tryd.f185 mixedOk (by kernel_rfl) (by kernel_rfl) (by kernel_rfl) ⟨S173_sound, trivial⟩ ⟨rfl, fun d => loopOk_of (fun L e x => h185_2 S173.pre S173.F L e x) (m185_2 S173.pre S173.F) (fun R L e x => s185_2 S173.pre S173.F W185_2 d R L e x), trivial⟩ I185 O185 T185 _ fun x => r185 S173.pre S173.F W185_2 x.1
/-- vernier/nat.Shl -/
abbrev I176 : Sig := [(false, .slice (.int .u64)), (false, .int .i64)]
abbrev O176 : Sig := [(false, .slice (.int .u64)), (false, .int .i64)]
noncomputable def t176 (p186 : DenS I186 → Bool) (f186 : DenS I186 → DenS O186) (p185 : DenS I185 → Bool) (f185 : DenS I185 → DenS O185) (a0 : Den (.slice (.int .u64))) (a1 : Den (.int .i64)) : Option (DenS O176) :=
  bif ((decide (a1 < (0 : Int))) || (decide (a1 > (65536 : Int)))) then
  (some ([], ((7 : Int), ())))
  else bif (p185 ((a0 :: []), ())) then
  (bif (f185 ((a0 :: []), ())).1 then
  (some ([], ((5 : Int), ())))
  else bif (p186 (a0, (a1, ()))) then
  (bif (p185 (((f186 (a0, (a1, ()))).1 :: []), ())) then
  (bif (f185 (((f186 (a0, (a1, ()))).1 :: []), ())).1 then
  (some ([], ((5 : Int), ())))
  else some ((f186 (a0, (a1, ()))).1, ((0 : Int), ())))
  else none)
  else none)
  else none
theorem r176 (p186 : DenS I186 → Bool) (f186 : DenS I186 → DenS O186) (p185 : DenS I185 → Bool) (f185 : DenS I185 → DenS O185) (a0 : Den (.slice (.int .u64))) (a1 : Den (.int .i64)) :
    run { P := Go.Proofs.Tryd.prog, sums := [(186, ⟨I186, O186, p186, f186⟩), (185, ⟨I185, O185, p185, f185⟩)], loops := [], globs := G1 } 9 176 Go.Proofs.Tryd.f176 I176 O176 (a0, a1, ()) = t176 p186 f186 p185 f185 a0 a1 := by kernel_rfl
noncomputable def T176 (x : DenS I176) : Option (DenS O176) := t176 S186.pre S186.F S185.pre S185.F x.1 x.2.1
noncomputable def C176 : Cfg := { P := Go.Proofs.Tryd.prog, sums := [(186, S186), (185, S185)], loops := [], globs := G1 }
noncomputable def S176 : Sum := sumOf I176 O176 T176 (DenS.dflt O176)
theorem S176_sound : Sound Go.Proofs.Tryd.prog G1 176 S176 :=
  fn_sound C176 9 176 Go.Proofs.Tryd.f176 mixedOk (by kernel_rfl) (by kernel_rfl) (by kernel_rfl) ⟨S186_sound, ⟨S185_sound, trivial⟩⟩ trivial I176 O176 T176 _ fun x => r176 S186.pre S186.F S185.pre S185.F x.1 x.2.1
/-- vernier/nat.Shr -/
abbrev I141 : Sig := [(false, .slice (.int .u64)), (false, .int .i64)]
abbrev O141 : Sig := [(false, .slice (.int .u64)), (false, .int .i64)]
noncomputable def t141 (p171 : DenS I171 → Bool) (f171 : DenS I171 → DenS O171) (a0 : Den (.slice (.int .u64))) (a1 : Den (.int .i64)) : Option (DenS O141) :=
  bif (decide (a1 < (0 : Int))) then
  (some ([], ((7 : Int), ())))
  else bif (p171 (a0, (a1, ()))) then
  (some ((f171 (a0, (a1, ()))).1, ((0 : Int), ())))
  else none
theorem r141 (p171 : DenS I171 → Bool) (f171 : DenS I171 → DenS O171) (a0 : Den (.slice (.int .u64))) (a1 : Den (.int .i64)) :
    run { P := Go.Proofs.Tryd.prog, sums := [(171, ⟨I171, O171, p171, f171⟩)], loops := [], globs := G1 } 9 141 Go.Proofs.Tryd.f141 I141 O141 (a0, a1, ()) = t141 p171 f171 a0 a1 := by kernel_rfl
noncomputable def T141 (x : DenS I141) : Option (DenS O141) := t141 S171.pre S171.F x.1 x.2.1
noncomputable def C141 : Cfg := { P := Go.Proofs.Tryd.prog, sums := [(171, S171)], loops := [], globs := G1 }
noncomputable def S141 : Sum := sumOf I141 O141 T141 (DenS.dflt O141)
theorem S141_sound : Sound Go.Proofs.Tryd.prog G1 141 S141 :=
  fn_sound C141 9 141 Go.Proofs.Tryd.f141 mixedOk (by kernel_rfl) (by kernel_rfl) (by kernel_rfl) ⟨S171_sound, trivial⟩ trivial I141 O141 T141 _ fun x => r141 S171.pre S171.F x.1 x.2.1
/-- vernier/round.further -/
abbrev I177 : Sig := [(false, .int .i64), (false, .bool), (false, .bool), (false, .int .u64)]
abbrev O177 : Sig := [(false, .bool)]
noncomputable def t177 (a0 : Den (.int .i64)) (a1 : Den (.bool)) (a2 : Den (.bool)) (a3 : Den (.int .u64)) : Option (DenS O177) :=
  bif (a0 == (4 : Int)) then
  (some ((!(!a1)), ()))
  else bif (a0 == (3 : Int)) then
  (some ((!a1), ()))
  else bif (a0 == (0 : Int)) then
  (bif (a3 == (2 : Int)) then
  (some (a2, ()))
  else some ((decide (a3 ≥ (2 : Int))), ()))
  else bif (a0 == (1 : Int)) then
  (some ((decide (a3 ≥ (2 : Int))), ()))
  else bif (a0 == (5 : Int)) then
  (some ((!a2), ()))
  else some (false, ())
theorem r177 (a0 : Den (.int .i64)) (a1 : Den (.bool)) (a2 : Den (.bool)) (a3 : Den (.int .u64)) :
    run { P := Go.Proofs.Tryd.prog, sums := [], loops := [], globs := G1 } 9 177 Go.Proofs.Tryd.f177 I177 O177 (a0, a1, a2, a3, ()) = t177 a0 a1 a2 a3 := by kernel_rfl
noncomputable def T177 (x : DenS I177) : Option (DenS O177) := t177 x.1 x.2.1 x.2.2.1 x.2.2.2.1
noncomputable def C177 : Cfg := { P := Go.Proofs.Tryd.prog, sums := [], loops := [], globs := G1 }
noncomputable def S177 : Sum := sumOf I177 O177 T177 (DenS.dflt O177)
theorem S177_sound : Sound Go.Proofs.Tryd.prog G1 177 S177 :=
  fn_sound C177 9 177 Go.Proofs.Tryd.f177 mixedOk (by kernel_rfl) (by kernel_rfl) (by kernel_rfl) trivial trivial I177 O177 T177 _ fun x => r177 x.1 x.2.1 x.2.2.1 x.2.2.2.1
/-- vernier/nat.Add -/
abbrev I143 : Sig := [(false, .slice (.int .u64)), (false, .slice (.int .u64))]
abbrev O143 : Sig := [(false, .slice (.int .u64))]
abbrev P143_8 : Pat := ⟨61, [(28, .one (.v .i64)), (1, .one (.sl (.int .u64))), (29, .one (.v .i64)), (0, .one (.sl (.int .u64))), (6, .one (.v .u64)), (5, .one (.own 0))], [.arr (.int .u64)]⟩
abbrev A143_8 : List (Nat × Shape) := []
abbrev X143_8 : List (Nat × Pat) := [(0, ⟨61, [(0, .one (.sl (.int .u64))), (6, .one (.v .u64)), (5, .one (.own 0))], [.arr (.int .u64)]⟩)]
abbrev Q143_8 : Option Pat := none
noncomputable def h143_8 (p155 : DenS I155 → Bool) (f155 : DenS I155 → DenS O155) (p173 : DenS I173 → Bool) (f173 : DenS I173 → DenS O173) {R : Type} (L : Pat.D P143_8 → Option R) (e : OutT X143_8 Q143_8 → Option R) (x : Pat.D P143_8) : Option R :=
  bif (decide (x.1.2.2.1 < x.1.1)) then
  (bif (decide (x.1.2.2.1 < (x.1.2.1.length : Int))) then
  (bif ((decide ((0 : Int) ≤ x.1.2.2.1)) && (decide (x.1.2.2.1 < (x.1.2.1.length : Int)))) then
  (bif ((decide ((0 : Int) ≤ x.1.2.2.1)) && (decide (x.1.2.2.1 < (x.1.2.2.2.1.length : Int)))) then
  (bif (p155 ((x.1.2.2.2.1.getD (Int.toNat x.1.2.2.1) (0 : Int)), ((x.1.2.1.getD (Int.toNat x.1.2.2.1) (0 : Int)), (x.1.2.2.2.2.1, ())))) then
  (bif ((decide ((0 : Int) ≤ x.1.2.2.1)) && (decide (x.1.2.2.1 < (x.2.1.length : Int)))) then
  ((L ((x.1.1, (x.1.2.1, ((Go.IntKind.wrap Go.IntKind.i64 (x.1.2.2.1 + (1 : Int))), (x.1.2.2.2.1, ((f155 ((x.1.2.2.2.1.getD (Int.toNat x.1.2.2.1) (0 : Int)), ((x.1.2.1.getD (Int.toNat x.1.2.2.1) (0 : Int)), (x.1.2.2.2.2.1, ())))).2.1, ((), ())))))), ((x.2.1.set (Int.toNat x.1.2.2.1) (f155 ((x.1.2.2.2.1.getD (Int.toNat x.1.2.2.1) (0 : Int)), ((x.1.2.1.getD (Int.toNat x.1.2.2.1) (0 : Int)), (x.1.2.2.2.2.1, ())))).1), ()))))
  else none)
  else none)
  else none)
  else none)
  else bif ((decide ((0 : Int) ≤ x.1.2.2.1)) && (decide (x.1.2.2.1 < (x.1.2.2.2.1.length : Int)))) then
  (bif (p155 ((x.1.2.2.2.1.getD (Int.toNat x.1.2.2.1) (0 : Int)), ((0 : Int), (x.1.2.2.2.2.1, ())))) then
  (bif ((decide ((0 : Int) ≤ x.1.2.2.1)) && (decide (x.1.2.2.1 < (x.2.1.length : Int)))) then
  ((L ((x.1.1, (x.1.2.1, ((Go.IntKind.wrap Go.IntKind.i64 (x.1.2.2.1 + (1 : Int))), (x.1.2.2.2.1, ((f155 ((x.1.2.2.2.1.getD (Int.toNat x.1.2.2.1) (0 : Int)), ((0 : Int), (x.1.2.2.2.2.1, ())))).2.1, ((), ())))))), ((x.2.1.set (Int.toNat x.1.2.2.1) (f155 ((x.1.2.2.2.1.getD (Int.toNat x.1.2.2.1) (0 : Int)), ((0 : Int), (x.1.2.2.2.2.1, ())))).1), ()))))
  else none)
  else none)
  else none)
  else (e (.inl ((x.1.2.2.2.1, (x.1.2.2.2.2.1, ((), ()))), x.2)))
theorem s143_8 (p155 : DenS I155 → Bool) (f155 : DenS I155 → DenS O155) (p173 : DenS I173 → Bool) (f173 : DenS I173 → DenS O173) (w143_8 : Pat.D P143_8 → Option (OutT X143_8 Q143_8)) (d : Nat) (R : Type) (L : Pat.D P143_8 → Option R) (e : OutT X143_8 Q143_8 → Option R) (x : Pat.D P143_8) :
    lStep { P := Go.Proofs.Tryd.prog, sums := [(155, ⟨I155, O155, p155, f155⟩), (173, ⟨I173, O173, p173, f173⟩)], loops := [(143, 8, LoopSpec.of P143_8 A143_8 X143_8 Q143_8 w143_8)], globs := G1 } (d + 2) 143 (bodyOf Go.Proofs.Tryd.f143 8) P143_8 A143_8 X143_8 Q143_8 (R := R) L e x = h143_8 p155 f155 p173 f173 L e x := by kernel_rfl
theorem m143_8 (p155 : DenS I155 → Bool) (f155 : DenS I155 → DenS O155) (p173 : DenS I173 → Bool) (f173 : DenS I173 → DenS O173) : Par fun L e x => h143_8 p155 f155 p173 f173 L e x := by
  intro A B rel L L' e e' h0 hL he x
  unfold h143_8
  repeat' (first | exact h0 | exact hL _ | exact he _ | apply rel_cond | (apply rel_obind h0; intro _) | (apply rel_obind2 <;> intro _))
noncomputable def t143 (p155 : DenS I155 → Bool) (f155 : DenS I155 → DenS O155) (p173 : DenS I173 → Bool) (f173 : DenS I173 → DenS O173) (w143_8 : Pat.D P143_8 → Option (OutT X143_8 Q143_8)) (a0 : Den (.slice (.int .u64))) (a1 : Den (.slice (.int .u64))) : Option (DenS O143) :=
  bif (p173 (a0, ())) then
  (bif (p173 (a1, ())) then
  (bif (decide (((f173 (a0, ())).1.length : Int) < ((f173 (a1, ())).1.length : Int))) then
  (bif ((decide ((0 : Int) ≤ (Go.IntKind.wrap Go.IntKind.i64 (((f173 (a1, ())).1.length : Int) + (1 : Int))))) && (decide (((Go.IntKind.wrap Go.IntKind.i64 (((f173 (a1, ())).1.length : Int) + (1 : Int))) * (8 : Int)) ≤ (140737488355328 : Int)))) then
  (Vx.obind (w143_8 ((((f173 (a1, ())).1.length : Int), ((f173 (a0, ())).1, ((0 : Int), ((f173 (a1, ())).1, ((0 : Int), ((), ())))))), ((((f173 (a1, ())).1.take (List.replicate (Int.toNat (Go.IntKind.wrap Go.IntKind.i64 (((f173 (a1, ())).1.length : Int) + (1 : Int)))) (0 : Int)).length) ++ ((List.replicate (Int.toNat (Go.IntKind.wrap Go.IntKind.i64 (((f173 (a1, ())).1.length : Int) + (1 : Int)))) (0 : Int)).drop (f173 (a1, ())).1.length)), ()))) fun y4 =>
  Vx.obind2 y4 (fun y5 =>
  bif ((decide ((0 : Int) ≤ (y5.1.1.length : Int))) && (decide ((y5.1.1.length : Int) < (y5.2.1.length : Int)))) then
  (bif (p173 ((y5.2.1.set (Int.toNat (y5.1.1.length : Int)) y5.1.2.1), ())) then
  (some (f173 ((y5.2.1.set (Int.toNat (y5.1.1.length : Int)) y5.1.2.1), ())))
  else none)
  else none) (fun z5 =>
  none))
  else none)
  else bif ((decide ((0 : Int) ≤ (Go.IntKind.wrap Go.IntKind.i64 (((f173 (a0, ())).1.length : Int) + (1 : Int))))) && (decide (((Go.IntKind.wrap Go.IntKind.i64 (((f173 (a0, ())).1.length : Int) + (1 : Int))) * (8 : Int)) ≤ (140737488355328 : Int)))) then
  (Vx.obind (w143_8 ((((f173 (a0, ())).1.length : Int), ((f173 (a1, ())).1, ((0 : Int), ((f173 (a0, ())).1, ((0 : Int), ((), ())))))), ((((f173 (a0, ())).1.take (List.replicate (Int.toNat (Go.IntKind.wrap Go.IntKind.i64 (((f173 (a0, ())).1.length : Int) + (1 : Int)))) (0 : Int)).length) ++ ((List.replicate (Int.toNat (Go.IntKind.wrap Go.IntKind.i64 (((f173 (a0, ())).1.length : Int) + (1 : Int)))) (0 : Int)).drop (f173 (a0, ())).1.length)), ()))) fun y4 =>
  Vx.obind2 y4 (fun y5 =>
  bif ((decide ((0 : Int) ≤ (y5.1.1.length : Int))) && (decide ((y5.1.1.length : Int) < (y5.2.1.length : Int)))) then
  (bif (p173 ((y5.2.1.set (Int.toNat (y5.1.1.length : Int)) y5.1.2.1), ())) then
  (some (f173 ((y5.2.1.set (Int.toNat (y5.1.1.length : Int)) y5.1.2.1), ())))
  else none)
  else none) (fun z5 =>
  none))
  else none)
  else none)
  else none
theorem r143 (p155 : DenS I155 → Bool) (f155 : DenS I155 → DenS O155) (p173 : DenS I173 → Bool) (f173 : DenS I173 → DenS O173) (w143_8 : Pat.D P143_8 → Option (OutT X143_8 Q143_8)) (a0 : Den (.slice (.int .u64))) (a1 : Den (.slice (.int .u64))) :
    run { P := Go.Proofs.Tryd.prog, sums := [(155, ⟨I155, O155, p155, f155⟩), (173, ⟨I173, O173, p173, f173⟩)], loops := [(143, 8, LoopSpec.of P143_8 A143_8 X143_8 Q143_8 w143_8)], globs := G1 } 9 143 Go.Proofs.Tryd.f143 I143 O143 (a0, a1, ()) = t143 p155 f155 p173 f173 w143_8 a0 a1 := by kernel_rfl
noncomputable def W143_8 : P143_8.D → Option (OutT X143_8 Q143_8) := lfix fun L => h143_8 S155.pre S155.F S173.pre S173.F L some
noncomputable def T143 (x : DenS I143) : Option (DenS O143) := t143 S155.pre S155.F S173.pre S173.F W143_8 x.1 x.2.1
noncomputable def C143 : Cfg := { P := Go.Proofs.Tryd.prog, sums := [(155, S155), (173, S173)], loops := [(143, 8, LoopSpec.of P143_8 A143_8 X143_8 Q143_8 W143_8)], globs := G1 }
noncomputable def S143 : Sum := sumOf I143 O143 T143 (DenS.dflt O143)
theorem S143_sound : Sound Go.Proofs.Tryd.prog G1 143 S143 :=
  fn_sound C143 9 143 Go.Proofs.Tryd.f143 mixedOk (by kernel_rfl) (by kernel_rfl) (by kernel_rfl) ⟨S155_sound, ⟨S173_sound, trivial⟩⟩ ⟨rfl, fun d => loopOk_of (fun L e x => h143_8 S155.pre S155.F S173.pre S173.F L e x) (m143_8 S155.pre S155.F S173.pre S173.F) (fun R L e x => s143_8 S155.pre S155.F S173.pre S173.F W143_8 d R L e x), trivial⟩ I143 O143 T143 _ fun x => r143 S155.pre S155.F S173.pre S173.F W143_8 x.1 x.2.1
/-- (vernier/round.number).cut -/
abbrev I150 : Sig := [(true, .pair (.bool) (.pair (.slice (.int .u64)) (.pair (.int .i64) (.pair (.bool) (.unit))))), (false, .int .i64), (false, .int .i64)]
abbrev O150 : Sig := [(false, .slice (.int .u64)), (false, .bool)]
noncomputable def t150 (p175 : DenS I175 → Bool) (f175 : DenS I175 → DenS O175) (p176 : DenS I176 → Bool) (f176 : DenS I176 → DenS O176) (p141 : DenS I141 → Bool) (f141 : DenS I141 → DenS O141) (p177 : DenS I177 → Bool) (f177 : DenS I177 → DenS O177) (p143 : DenS I143 → Bool) (f143 : DenS I143 → DenS O143) (a0 : Den (.pair (.bool) (.pair (.slice (.int .u64)) (.pair (.int .i64) (.pair (.bool) (.unit)))))) (a1 : Den (.int .i64)) (a2 : Den (.int .i64)) : Option (DenS O150) :=
  bif (decide ((Go.IntKind.wrap Go.IntKind.i64 (a2 - a0.2.2.1)) ≥ (2 : Int))) then
  (bif (p175 (a0.2.1, ((Go.IntKind.wrap Go.IntKind.i64 ((Go.IntKind.wrap Go.IntKind.i64 (a2 - a0.2.2.1)) - (2 : Int))), ()))) then
  (bif (decide (((f175 (a0.2.1, ((Go.IntKind.wrap Go.IntKind.i64 ((Go.IntKind.wrap Go.IntKind.i64 (a2 - a0.2.2.1)) - (2 : Int))), ()))).1.length : Int) > (0 : Int))) then
  (bif (decide ((0 : Int) < ((f175 (a0.2.1, ((Go.IntKind.wrap Go.IntKind.i64 ((Go.IntKind.wrap Go.IntKind.i64 (a2 - a0.2.2.1)) - (2 : Int))), ()))).1.length : Int))) then
  (bif a0.2.2.2.1 then
  (bif (p141 ((f175 (a0.2.1, ((Go.IntKind.wrap Go.IntKind.i64 ((Go.IntKind.wrap Go.IntKind.i64 (a2 - a0.2.2.1)) - (2 : Int))), ()))).1, ((2 : Int), ()))) then
  (bif ((decide ((0 : Int) < ((f141 ((f175 (a0.2.1, ((Go.IntKind.wrap Go.IntKind.i64 ((Go.IntKind.wrap Go.IntKind.i64 (a2 - a0.2.2.1)) - (2 : Int))), ()))).1, ((2 : Int), ()))).1.length : Int))) || (!(decide (((f141 ((f175 (a0.2.1, ((Go.IntKind.wrap Go.IntKind.i64 ((Go.IntKind.wrap Go.IntKind.i64 (a2 - a0.2.2.1)) - (2 : Int))), ()))).1, ((2 : Int), ()))).1.length : Int) > (0 : Int))))) then
  (bif ((p177 (a1, (a0.1, (((decide (((f141 ((f175 (a0.2.1, ((Go.IntKind.wrap Go.IntKind.i64 ((Go.IntKind.wrap Go.IntKind.i64 (a2 - a0.2.2.1)) - (2 : Int))), ()))).1, ((2 : Int), ()))).1.length : Int) > (0 : Int))) && ((Vx.andI Go.IntKind.u64 ((f141 ((f175 (a0.2.1, ((Go.IntKind.wrap Go.IntKind.i64 ((Go.IntKind.wrap Go.IntKind.i64 (a2 - a0.2.2.1)) - (2 : Int))), ()))).1, ((2 : Int), ()))).1.getD (Int.toNat (0 : Int)) (0 : Int)) (1 : Int)) == (1 : Int))), ((Vx.orI Go.IntKind.u64 (Vx.andI Go.IntKind.u64 ((f175 (a0.2.1, ((Go.IntKind.wrap Go.IntKind.i64 ((Go.IntKind.wrap Go.IntKind.i64 (a2 - a0.2.2.1)) - (2 : Int))), ()))).1.getD (Int.toNat (0 : Int)) (0 : Int)) (3 : Int)) (1 : Int)), ()))))) || (!(bif ((Vx.orI Go.IntKind.u64 (Vx.andI Go.IntKind.u64 ((f175 (a0.2.1, ((Go.IntKind.wrap Go.IntKind.i64 ((Go.IntKind.wrap Go.IntKind.i64 (a2 - a0.2.2.1)) - (2 : Int))), ()))).1.getD (Int.toNat (0 : Int)) (0 : Int)) (3 : Int)) (1 : Int)) == (0 : Int)) then false else true))) then
  (bif (((Vx.orI Go.IntKind.u64 (Vx.andI Go.IntKind.u64 ((f175 (a0.2.1, ((Go.IntKind.wrap Go.IntKind.i64 ((Go.IntKind.wrap Go.IntKind.i64 (a2 - a0.2.2.1)) - (2 : Int))), ()))).1.getD (Int.toNat (0 : Int)) (0 : Int)) (3 : Int)) (1 : Int)) != (0 : Int)) && (f177 (a1, (a0.1, (((decide (((f141 ((f175 (a0.2.1, ((Go.IntKind.wrap Go.IntKind.i64 ((Go.IntKind.wrap Go.IntKind.i64 (a2 - a0.2.2.1)) - (2 : Int))), ()))).1, ((2 : Int), ()))).1.length : Int) > (0 : Int))) && ((Vx.andI Go.IntKind.u64 ((f141 ((f175 (a0.2.1, ((Go.IntKind.wrap Go.IntKind.i64 ((Go.IntKind.wrap Go.IntKind.i64 (a2 - a0.2.2.1)) - (2 : Int))), ()))).1, ((2 : Int), ()))).1.getD (Int.toNat (0 : Int)) (0 : Int)) (1 : Int)) == (1 : Int))), ((Vx.orI Go.IntKind.u64 (Vx.andI Go.IntKind.u64 ((f175 (a0.2.1, ((Go.IntKind.wrap Go.IntKind.i64 ((Go.IntKind.wrap Go.IntKind.i64 (a2 - a0.2.2.1)) - (2 : Int))), ()))).1.getD (Int.toNat (0 : Int)) (0 : Int)) (3 : Int)) (1 : Int)), ()))))).1) then
  (bif (p143 ((f141 ((f175 (a0.2.1, ((Go.IntKind.wrap Go.IntKind.i64 ((Go.IntKind.wrap Go.IntKind.i64 (a2 - a0.2.2.1)) - (2 : Int))), ()))).1, ((2 : Int), ()))).1, (((1 : Int) :: []), ()))) then
  (some ((f143 ((f141 ((f175 (a0.2.1, ((Go.IntKind.wrap Go.IntKind.i64 ((Go.IntKind.wrap Go.IntKind.i64 (a2 - a0.2.2.1)) - (2 : Int))), ()))).1, ((2 : Int), ()))).1, (((1 : Int) :: []), ()))).1, (((Vx.orI Go.IntKind.u64 (Vx.andI Go.IntKind.u64 ((f175 (a0.2.1, ((Go.IntKind.wrap Go.IntKind.i64 ((Go.IntKind.wrap Go.IntKind.i64 (a2 - a0.2.2.1)) - (2 : Int))), ()))).1.getD (Int.toNat (0 : Int)) (0 : Int)) (3 : Int)) (1 : Int)) != (0 : Int)), ())))
  else none)
  else some ((f141 ((f175 (a0.2.1, ((Go.IntKind.wrap Go.IntKind.i64 ((Go.IntKind.wrap Go.IntKind.i64 (a2 - a0.2.2.1)) - (2 : Int))), ()))).1, ((2 : Int), ()))).1, (((Vx.orI Go.IntKind.u64 (Vx.andI Go.IntKind.u64 ((f175 (a0.2.1, ((Go.IntKind.wrap Go.IntKind.i64 ((Go.IntKind.wrap Go.IntKind.i64 (a2 - a0.2.2.1)) - (2 : Int))), ()))).1.getD (Int.toNat (0 : Int)) (0 : Int)) (3 : Int)) (1 : Int)) != (0 : Int)), ())))
  else none)
  else none)
  else none)
  else bif (p141 ((f175 (a0.2.1, ((Go.IntKind.wrap Go.IntKind.i64 ((Go.IntKind.wrap Go.IntKind.i64 (a2 - a0.2.2.1)) - (2 : Int))), ()))).1, ((2 : Int), ()))) then
  (bif ((decide ((0 : Int) < ((f141 ((f175 (a0.2.1, ((Go.IntKind.wrap Go.IntKind.i64 ((Go.IntKind.wrap Go.IntKind.i64 (a2 - a0.2.2.1)) - (2 : Int))), ()))).1, ((2 : Int), ()))).1.length : Int))) || (!(decide (((f141 ((f175 (a0.2.1, ((Go.IntKind.wrap Go.IntKind.i64 ((Go.IntKind.wrap Go.IntKind.i64 (a2 - a0.2.2.1)) - (2 : Int))), ()))).1, ((2 : Int), ()))).1.length : Int) > (0 : Int))))) then
  (bif ((p177 (a1, (a0.1, (((decide (((f141 ((f175 (a0.2.1, ((Go.IntKind.wrap Go.IntKind.i64 ((Go.IntKind.wrap Go.IntKind.i64 (a2 - a0.2.2.1)) - (2 : Int))), ()))).1, ((2 : Int), ()))).1.length : Int) > (0 : Int))) && ((Vx.andI Go.IntKind.u64 ((f141 ((f175 (a0.2.1, ((Go.IntKind.wrap Go.IntKind.i64 ((Go.IntKind.wrap Go.IntKind.i64 (a2 - a0.2.2.1)) - (2 : Int))), ()))).1, ((2 : Int), ()))).1.getD (Int.toNat (0 : Int)) (0 : Int)) (1 : Int)) == (1 : Int))), ((Vx.andI Go.IntKind.u64 ((f175 (a0.2.1, ((Go.IntKind.wrap Go.IntKind.i64 ((Go.IntKind.wrap Go.IntKind.i64 (a2 - a0.2.2.1)) - (2 : Int))), ()))).1.getD (Int.toNat (0 : Int)) (0 : Int)) (3 : Int)), ()))))) || (!(bif ((Vx.andI Go.IntKind.u64 ((f175 (a0.2.1, ((Go.IntKind.wrap Go.IntKind.i64 ((Go.IntKind.wrap Go.IntKind.i64 (a2 - a0.2.2.1)) - (2 : Int))), ()))).1.getD (Int.toNat (0 : Int)) (0 : Int)) (3 : Int)) == (0 : Int)) then false else true))) then
  (bif (((Vx.andI Go.IntKind.u64 ((f175 (a0.2.1, ((Go.IntKind.wrap Go.IntKind.i64 ((Go.IntKind.wrap Go.IntKind.i64 (a2 - a0.2.2.1)) - (2 : Int))), ()))).1.getD (Int.toNat (0 : Int)) (0 : Int)) (3 : Int)) != (0 : Int)) && (f177 (a1, (a0.1, (((decide (((f141 ((f175 (a0.2.1, ((Go.IntKind.wrap Go.IntKind.i64 ((Go.IntKind.wrap Go.IntKind.i64 (a2 - a0.2.2.1)) - (2 : Int))), ()))).1, ((2 : Int), ()))).1.length : Int) > (0 : Int))) && ((Vx.andI Go.IntKind.u64 ((f141 ((f175 (a0.2.1, ((Go.IntKind.wrap Go.IntKind.i64 ((Go.IntKind.wrap Go.IntKind.i64 (a2 - a0.2.2.1)) - (2 : Int))), ()))).1, ((2 : Int), ()))).1.getD (Int.toNat (0 : Int)) (0 : Int)) (1 : Int)) == (1 : Int))), ((Vx.andI Go.IntKind.u64 ((f175 (a0.2.1, ((Go.IntKind.wrap Go.IntKind.i64 ((Go.IntKind.wrap Go.IntKind.i64 (a2 - a0.2.2.1)) - (2 : Int))), ()))).1.getD (Int.toNat (0 : Int)) (0 : Int)) (3 : Int)), ()))))).1) then
  (bif (p143 ((f141 ((f175 (a0.2.1, ((Go.IntKind.wrap Go.IntKind.i64 ((Go.IntKind.wrap Go.IntKind.i64 (a2 - a0.2.2.1)) - (2 : Int))), ()))).1, ((2 : Int), ()))).1, (((1 : Int) :: []), ()))) then
  (some ((f143 ((f141 ((f175 (a0.2.1, ((Go.IntKind.wrap Go.IntKind.i64 ((Go.IntKind.wrap Go.IntKind.i64 (a2 - a0.2.2.1)) - (2 : Int))), ()))).1, ((2 : Int), ()))).1, (((1 : Int) :: []), ()))).1, (((Vx.andI Go.IntKind.u64 ((f175 (a0.2.1, ((Go.IntKind.wrap Go.IntKind.i64 ((Go.IntKind.wrap Go.IntKind.i64 (a2 - a0.2.2.1)) - (2 : Int))), ()))).1.getD (Int.toNat (0 : Int)) (0 : Int)) (3 : Int)) != (0 : Int)), ())))
  else none)
  else some ((f141 ((f175 (a0.2.1, ((Go.IntKind.wrap Go.IntKind.i64 ((Go.IntKind.wrap Go.IntKind.i64 (a2 - a0.2.2.1)) - (2 : Int))), ()))).1, ((2 : Int), ()))).1, (((Vx.andI Go.IntKind.u64 ((f175 (a0.2.1, ((Go.IntKind.wrap Go.IntKind.i64 ((Go.IntKind.wrap Go.IntKind.i64 (a2 - a0.2.2.1)) - (2 : Int))), ()))).1.getD (Int.toNat (0 : Int)) (0 : Int)) (3 : Int)) != (0 : Int)), ())))
  else none)
  else none)
  else none)
  else none)
  else bif a0.2.2.2.1 then
  (bif (p141 ((f175 (a0.2.1, ((Go.IntKind.wrap Go.IntKind.i64 ((Go.IntKind.wrap Go.IntKind.i64 (a2 - a0.2.2.1)) - (2 : Int))), ()))).1, ((2 : Int), ()))) then
  (bif ((decide ((0 : Int) < ((f141 ((f175 (a0.2.1, ((Go.IntKind.wrap Go.IntKind.i64 ((Go.IntKind.wrap Go.IntKind.i64 (a2 - a0.2.2.1)) - (2 : Int))), ()))).1, ((2 : Int), ()))).1.length : Int))) || (!(decide (((f141 ((f175 (a0.2.1, ((Go.IntKind.wrap Go.IntKind.i64 ((Go.IntKind.wrap Go.IntKind.i64 (a2 - a0.2.2.1)) - (2 : Int))), ()))).1, ((2 : Int), ()))).1.length : Int) > (0 : Int))))) then
  (bif ((p177 (a1, (a0.1, (((decide (((f141 ((f175 (a0.2.1, ((Go.IntKind.wrap Go.IntKind.i64 ((Go.IntKind.wrap Go.IntKind.i64 (a2 - a0.2.2.1)) - (2 : Int))), ()))).1, ((2 : Int), ()))).1.length : Int) > (0 : Int))) && ((Vx.andI Go.IntKind.u64 ((f141 ((f175 (a0.2.1, ((Go.IntKind.wrap Go.IntKind.i64 ((Go.IntKind.wrap Go.IntKind.i64 (a2 - a0.2.2.1)) - (2 : Int))), ()))).1, ((2 : Int), ()))).1.getD (Int.toNat (0 : Int)) (0 : Int)) (1 : Int)) == (1 : Int))), ((Vx.orI Go.IntKind.u64 (0 : Int) (1 : Int)), ()))))) || false) then
  (bif (f177 (a1, (a0.1, (((decide (((f141 ((f175 (a0.2.1, ((Go.IntKind.wrap Go.IntKind.i64 ((Go.IntKind.wrap Go.IntKind.i64 (a2 - a0.2.2.1)) - (2 : Int))), ()))).1, ((2 : Int), ()))).1.length : Int) > (0 : Int))) && ((Vx.andI Go.IntKind.u64 ((f141 ((f175 (a0.2.1, ((Go.IntKind.wrap Go.IntKind.i64 ((Go.IntKind.wrap Go.IntKind.i64 (a2 - a0.2.2.1)) - (2 : Int))), ()))).1, ((2 : Int), ()))).1.getD (Int.toNat (0 : Int)) (0 : Int)) (1 : Int)) == (1 : Int))), ((Vx.orI Go.IntKind.u64 (0 : Int) (1 : Int)), ()))))).1 then
  (bif (p143 ((f141 ((f175 (a0.2.1, ((Go.IntKind.wrap Go.IntKind.i64 ((Go.IntKind.wrap Go.IntKind.i64 (a2 - a0.2.2.1)) - (2 : Int))), ()))).1, ((2 : Int), ()))).1, (((1 : Int) :: []), ()))) then
  (some ((f143 ((f141 ((f175 (a0.2.1, ((Go.IntKind.wrap Go.IntKind.i64 ((Go.IntKind.wrap Go.IntKind.i64 (a2 - a0.2.2.1)) - (2 : Int))), ()))).1, ((2 : Int), ()))).1, (((1 : Int) :: []), ()))).1, (true, ())))
  else none)
  else some ((f141 ((f175 (a0.2.1, ((Go.IntKind.wrap Go.IntKind.i64 ((Go.IntKind.wrap Go.IntKind.i64 (a2 - a0.2.2.1)) - (2 : Int))), ()))).1, ((2 : Int), ()))).1, (true, ())))
  else none)
  else none)
  else none)
  else bif (p141 ((f175 (a0.2.1, ((Go.IntKind.wrap Go.IntKind.i64 ((Go.IntKind.wrap Go.IntKind.i64 (a2 - a0.2.2.1)) - (2 : Int))), ()))).1, ((2 : Int), ()))) then
  (bif ((decide ((0 : Int) < ((f141 ((f175 (a0.2.1, ((Go.IntKind.wrap Go.IntKind.i64 ((Go.IntKind.wrap Go.IntKind.i64 (a2 - a0.2.2.1)) - (2 : Int))), ()))).1, ((2 : Int), ()))).1.length : Int))) || (!(decide (((f141 ((f175 (a0.2.1, ((Go.IntKind.wrap Go.IntKind.i64 ((Go.IntKind.wrap Go.IntKind.i64 (a2 - a0.2.2.1)) - (2 : Int))), ()))).1, ((2 : Int), ()))).1.length : Int) > (0 : Int))))) then
  (bif ((p177 (a1, (a0.1, (((decide (((f141 ((f175 (a0.2.1, ((Go.IntKind.wrap Go.IntKind.i64 ((Go.IntKind.wrap Go.IntKind.i64 (a2 - a0.2.2.1)) - (2 : Int))), ()))).1, ((2 : Int), ()))).1.length : Int) > (0 : Int))) && ((Vx.andI Go.IntKind.u64 ((f141 ((f175 (a0.2.1, ((Go.IntKind.wrap Go.IntKind.i64 ((Go.IntKind.wrap Go.IntKind.i64 (a2 - a0.2.2.1)) - (2 : Int))), ()))).1, ((2 : Int), ()))).1.getD (Int.toNat (0 : Int)) (0 : Int)) (1 : Int)) == (1 : Int))), ((0 : Int), ()))))) || true) then
  (some ((f141 ((f175 (a0.2.1, ((Go.IntKind.wrap Go.IntKind.i64 ((Go.IntKind.wrap Go.IntKind.i64 (a2 - a0.2.2.1)) - (2 : Int))), ()))).1, ((2 : Int), ()))).1, (false, ())))
  else none)
  else none)
  else none)
  else none)
  else bif (p176 (a0.2.1, ((Go.IntKind.wrap Go.IntKind.i64 ((2 : Int) - (Go.IntKind.wrap Go.IntKind.i64 (a2 - a0.2.2.1)))), ()))) then
  (bif (decide (((f176 (a0.2.1, ((Go.IntKind.wrap Go.IntKind.i64 ((2 : Int) - (Go.IntKind.wrap Go.IntKind.i64 (a2 - a0.2.2.1)))), ()))).1.length : Int) > (0 : Int))) then
  (bif (decide ((0 : Int) < ((f176 (a0.2.1, ((Go.IntKind.wrap Go.IntKind.i64 ((2 : Int) - (Go.IntKind.wrap Go.IntKind.i64 (a2 - a0.2.2.1)))), ()))).1.length : Int))) then
  (bif a0.2.2.2.1 then
  (bif (p141 ((f176 (a0.2.1, ((Go.IntKind.wrap Go.IntKind.i64 ((2 : Int) - (Go.IntKind.wrap Go.IntKind.i64 (a2 - a0.2.2.1)))), ()))).1, ((2 : Int), ()))) then
  (bif ((decide ((0 : Int) < ((f141 ((f176 (a0.2.1, ((Go.IntKind.wrap Go.IntKind.i64 ((2 : Int) - (Go.IntKind.wrap Go.IntKind.i64 (a2 - a0.2.2.1)))), ()))).1, ((2 : Int), ()))).1.length : Int))) || (!(decide (((f141 ((f176 (a0.2.1, ((Go.IntKind.wrap Go.IntKind.i64 ((2 : Int) - (Go.IntKind.wrap Go.IntKind.i64 (a2 - a0.2.2.1)))), ()))).1, ((2 : Int), ()))).1.length : Int) > (0 : Int))))) then
  (bif ((p177 (a1, (a0.1, (((decide (((f141 ((f176 (a0.2.1, ((Go.IntKind.wrap Go.IntKind.i64 ((2 : Int) - (Go.IntKind.wrap Go.IntKind.i64 (a2 - a0.2.2.1)))), ()))).1, ((2 : Int), ()))).1.length : Int) > (0 : Int))) && ((Vx.andI Go.IntKind.u64 ((f141 ((f176 (a0.2.1, ((Go.IntKind.wrap Go.IntKind.i64 ((2 : Int) - (Go.IntKind.wrap Go.IntKind.i64 (a2 - a0.2.2.1)))), ()))).1, ((2 : Int), ()))).1.getD (Int.toNat (0 : Int)) (0 : Int)) (1 : Int)) == (1 : Int))), ((Vx.orI Go.IntKind.u64 (Vx.andI Go.IntKind.u64 ((f176 (a0.2.1, ((Go.IntKind.wrap Go.IntKind.i64 ((2 : Int) - (Go.IntKind.wrap Go.IntKind.i64 (a2 - a0.2.2.1)))), ()))).1.getD (Int.toNat (0 : Int)) (0 : Int)) (3 : Int)) (1 : Int)), ()))))) || (!(bif ((Vx.orI Go.IntKind.u64 (Vx.andI Go.IntKind.u64 ((f176 (a0.2.1, ((Go.IntKind.wrap Go.IntKind.i64 ((2 : Int) - (Go.IntKind.wrap Go.IntKind.i64 (a2 - a0.2.2.1)))), ()))).1.getD (Int.toNat (0 : Int)) (0 : Int)) (3 : Int)) (1 : Int)) == (0 : Int)) then false else true))) then
  (bif (((Vx.orI Go.IntKind.u64 (Vx.andI Go.IntKind.u64 ((f176 (a0.2.1, ((Go.IntKind.wrap Go.IntKind.i64 ((2 : Int) - (Go.IntKind.wrap Go.IntKind.i64 (a2 - a0.2.2.1)))), ()))).1.getD (Int.toNat (0 : Int)) (0 : Int)) (3 : Int)) (1 : Int)) != (0 : Int)) && (f177 (a1, (a0.1, (((decide (((f141 ((f176 (a0.2.1, ((Go.IntKind.wrap Go.IntKind.i64 ((2 : Int) - (Go.IntKind.wrap Go.IntKind.i64 (a2 - a0.2.2.1)))), ()))).1, ((2 : Int), ()))).1.length : Int) > (0 : Int))) && ((Vx.andI Go.IntKind.u64 ((f141 ((f176 (a0.2.1, ((Go.IntKind.wrap Go.IntKind.i64 ((2 : Int) - (Go.IntKind.wrap Go.IntKind.i64 (a2 - a0.2.2.1)))), ()))).1, ((2 : Int), ()))).1.getD (Int.toNat (0 : Int)) (0 : Int)) (1 : Int)) == (1 : Int))), ((Vx.orI Go.IntKind.u64 (Vx.andI Go.IntKind.u64 ((f176 (a0.2.1, ((Go.IntKind.wrap Go.IntKind.i64 ((2 : Int) - (Go.IntKind.wrap Go.IntKind.i64 (a2 - a0.2.2.1)))), ()))).1.getD (Int.toNat (0 : Int)) (0 : Int)) (3 : Int)) (1 : Int)), ()))))).1) then
  (bif (p143 ((f141 ((f176 (a0.2.1, ((Go.IntKind.wrap Go.IntKind.i64 ((2 : Int) - (Go.IntKind.wrap Go.IntKind.i64 (a2 - a0.2.2.1)))), ()))).1, ((2 : Int), ()))).1, (((1 : Int) :: []), ()))) then
  (some ((f143 ((f141 ((f176 (a0.2.1, ((Go.IntKind.wrap Go.IntKind.i64 ((2 : Int) - (Go.IntKind.wrap Go.IntKind.i64 (a2 - a0.2.2.1)))), ()))).1, ((2 : Int), ()))).1, (((1 : Int) :: []), ()))).1, (((Vx.orI Go.IntKind.u64 (Vx.andI Go.IntKind.u64 ((f176 (a0.2.1, ((Go.IntKind.wrap Go.IntKind.i64 ((2 : Int) - (Go.IntKind.wrap Go.IntKind.i64 (a2 - a0.2.2.1)))), ()))).1.getD (Int.toNat (0 : Int)) (0 : Int)) (3 : Int)) (1 : Int)) != (0 : Int)), ())))
  else none)
  else some ((f141 ((f176 (a0.2.1, ((Go.IntKind.wrap Go.IntKind.i64 ((2 : Int) - (Go.IntKind.wrap Go.IntKind.i64 (a2 - a0.2.2.1)))), ()))).1, ((2 : Int), ()))).1, (((Vx.orI Go.IntKind.u64 (Vx.andI Go.IntKind.u64 ((f176 (a0.2.1, ((Go.IntKind.wrap Go.IntKind.i64 ((2 : Int) - (Go.IntKind.wrap Go.IntKind.i64 (a2 - a0.2.2.1)))), ()))).1.getD (Int.toNat (0 : Int)) (0 : Int)) (3 : Int)) (1 : Int)) != (0 : Int)), ())))
  else none)
  else none)
  else none)
  else bif (p141 ((f176 (a0.2.1, ((Go.IntKind.wrap Go.IntKind.i64 ((2 : Int) - (Go.IntKind.wrap Go.IntKind.i64 (a2 - a0.2.2.1)))), ()))).1, ((2 : Int), ()))) then
  (bif ((decide ((0 : Int) < ((f141 ((f176 (a0.2.1, ((Go.IntKind.wrap Go.IntKind.i64 ((2 : Int) - (Go.IntKind.wrap Go.IntKind.i64 (a2 - a0.2.2.1)))), ()))).1, ((2 : Int), ()))).1.length : Int))) || (!(decide (((f141 ((f176 (a0.2.1, ((Go.IntKind.wrap Go.IntKind.i64 ((2 : Int) - (Go.IntKind.wrap Go.IntKind.i64 (a2 - a0.2.2.1)))), ()))).1, ((2 : Int), ()))).1.length : Int) > (0 : Int))))) then
  (bif ((p177 (a1, (a0.1, (((decide (((f141 ((f176 (a0.2.1, ((Go.IntKind.wrap Go.IntKind.i64 ((2 : Int) - (Go.IntKind.wrap Go.IntKind.i64 (a2 - a0.2.2.1)))), ()))).1, ((2 : Int), ()))).1.length : Int) > (0 : Int))) && ((Vx.andI Go.IntKind.u64 ((f141 ((f176 (a0.2.1, ((Go.IntKind.wrap Go.IntKind.i64 ((2 : Int) - (Go.IntKind.wrap Go.IntKind.i64 (a2 - a0.2.2.1)))), ()))).1, ((2 : Int), ()))).1.getD (Int.toNat (0 : Int)) (0 : Int)) (1 : Int)) == (1 : Int))), ((Vx.andI Go.IntKind.u64 ((f176 (a0.2.1, ((Go.IntKind.wrap Go.IntKind.i64 ((2 : Int) - (Go.IntKind.wrap Go.IntKind.i64 (a2 - a0.2.2.1)))), ()))).1.getD (Int.toNat (0 : Int)) (0 : Int)) (3 : Int)), ()))))) || (!(bif ((Vx.andI Go.IntKind.u64 ((f176 (a0.2.1, ((Go.IntKind.wrap Go.IntKind.i64 ((2 : Int) - (Go.IntKind.wrap Go.IntKind.i64 (a2 - a0.2.2.1)))), ()))).1.getD (Int.toNat (0 : Int)) (0 : Int)) (3 : Int)) == (0 : Int)) then false else true))) then
  (bif (((Vx.andI Go.IntKind.u64 ((f176 (a0.2.1, ((Go.IntKind.wrap Go.IntKind.i64 ((2 : Int) - (Go.IntKind.wrap Go.IntKind.i64 (a2 - a0.2.2.1)))), ()))).1.getD (Int.toNat (0 : Int)) (0 : Int)) (3 : Int)) != (0 : Int)) && (f177 (a1, (a0.1, (((decide (((f141 ((f176 (a0.2.1, ((Go.IntKind.wrap Go.IntKind.i64 ((2 : Int) - (Go.IntKind.wrap Go.IntKind.i64 (a2 - a0.2.2.1)))), ()))).1, ((2 : Int), ()))).1.length : Int) > (0 : Int))) && ((Vx.andI Go.IntKind.u64 ((f141 ((f176 (a0.2.1, ((Go.IntKind.wrap Go.IntKind.i64 ((2 : Int) - (Go.IntKind.wrap Go.IntKind.i64 (a2 - a0.2.2.1)))), ()))).1, ((2 : Int), ()))).1.getD (Int.toNat (0 : Int)) (0 : Int)) (1 : Int)) == (1 : Int))), ((Vx.andI Go.IntKind.u64 ((f176 (a0.2.1, ((Go.IntKind.wrap Go.IntKind.i64 ((2 : Int) - (Go.IntKind.wrap Go.IntKind.i64 (a2 - a0.2.2.1)))), ()))).1.getD (Int.toNat (0 : Int)) (0 : Int)) (3 : Int)), ()))))).1) then
  (bif (p143 ((f141 ((f176 (a0.2.1, ((Go.IntKind.wrap Go.IntKind.i64 ((2 : Int) - (Go.IntKind.wrap Go.IntKind.i64 (a2 - a0.2.2.1)))), ()))).1, ((2 : Int), ()))).1, (((1 : Int) :: []), ()))) then
  (some ((f143 ((f141 ((f176 (a0.2.1, ((Go.IntKind.wrap Go.IntKind.i64 ((2 : Int) - (Go.IntKind.wrap Go.IntKind.i64 (a2 - a0.2.2.1)))), ()))).1, ((2 : Int), ()))).1, (((1 : Int) :: []), ()))).1, (((Vx.andI Go.IntKind.u64 ((f176 (a0.2.1, ((Go.IntKind.wrap Go.IntKind.i64 ((2 : Int) - (Go.IntKind.wrap Go.IntKind.i64 (a2 - a0.2.2.1)))), ()))).1.getD (Int.toNat (0 : Int)) (0 : Int)) (3 : Int)) != (0 : Int)), ())))
  else none)
  else some ((f141 ((f176 (a0.2.1, ((Go.IntKind.wrap Go.IntKind.i64 ((2 : Int) - (Go.IntKind.wrap Go.IntKind.i64 (a2 - a0.2.2.1)))), ()))).1, ((2 : Int), ()))).1, (((Vx.andI Go.IntKind.u64 ((f176 (a0.2.1, ((Go.IntKind.wrap Go.IntKind.i64 ((2 : Int) - (Go.IntKind.wrap Go.IntKind.i64 (a2 - a0.2.2.1)))), ()))).1.getD (Int.toNat (0 : Int)) (0 : Int)) (3 : Int)) != (0 : Int)), ())))
  else none)
  else none)
  else none)
  else none)
  else bif a0.2.2.2.1 then
  (bif (p141 ((f176 (a0.2.1, ((Go.IntKind.wrap Go.IntKind.i64 ((2 : Int) - (Go.IntKind.wrap Go.IntKind.i64 (a2 - a0.2.2.1)))), ()))).1, ((2 : Int), ()))) then
  (bif ((decide ((0 : Int) < ((f141 ((f176 (a0.2.1, ((Go.IntKind.wrap Go.IntKind.i64 ((2 : Int) - (Go.IntKind.wrap Go.IntKind.i64 (a2 - a0.2.2.1)))), ()))).1, ((2 : Int), ()))).1.length : Int))) || (!(decide (((f141 ((f176 (a0.2.1, ((Go.IntKind.wrap Go.IntKind.i64 ((2 : Int) - (Go.IntKind.wrap Go.IntKind.i64 (a2 - a0.2.2.1)))), ()))).1, ((2 : Int), ()))).1.length : Int) > (0 : Int))))) then
  (bif ((p177 (a1, (a0.1, (((decide (((f141 ((f176 (a0.2.1, ((Go.IntKind.wrap Go.IntKind.i64 ((2 : Int) - (Go.IntKind.wrap Go.IntKind.i64 (a2 - a0.2.2.1)))), ()))).1, ((2 : Int), ()))).1.length : Int) > (0 : Int))) && ((Vx.andI Go.IntKind.u64 ((f141 ((f176 (a0.2.1, ((Go.IntKind.wrap Go.IntKind.i64 ((2 : Int) - (Go.IntKind.wrap Go.IntKind.i64 (a2 - a0.2.2.1)))), ()))).1, ((2 : Int), ()))).1.getD (Int.toNat (0 : Int)) (0 : Int)) (1 : Int)) == (1 : Int))), ((Vx.orI Go.IntKind.u64 (0 : Int) (1 : Int)), ()))))) || false) then
  (bif (f177 (a1, (a0.1, (((decide (((f141 ((f176 (a0.2.1, ((Go.IntKind.wrap Go.IntKind.i64 ((2 : Int) - (Go.IntKind.wrap Go.IntKind.i64 (a2 - a0.2.2.1)))), ()))).1, ((2 : Int), ()))).1.length : Int) > (0 : Int))) && ((Vx.andI Go.IntKind.u64 ((f141 ((f176 (a0.2.1, ((Go.IntKind.wrap Go.IntKind.i64 ((2 : Int) - (Go.IntKind.wrap Go.IntKind.i64 (a2 - a0.2.2.1)))), ()))).1, ((2 : Int), ()))).1.getD (Int.toNat (0 : Int)) (0 : Int)) (1 : Int)) == (1 : Int))), ((Vx.orI Go.IntKind.u64 (0 : Int) (1 : Int)), ()))))).1 then
  (bif (p143 ((f141 ((f176 (a0.2.1, ((Go.IntKind.wrap Go.IntKind.i64 ((2 : Int) - (Go.IntKind.wrap Go.IntKind.i64 (a2 - a0.2.2.1)))), ()))).1, ((2 : Int), ()))).1, (((1 : Int) :: []), ()))) then
  (some ((f143 ((f141 ((f176 (a0.2.1, ((Go.IntKind.wrap Go.IntKind.i64 ((2 : Int) - (Go.IntKind.wrap Go.IntKind.i64 (a2 - a0.2.2.1)))), ()))).1, ((2 : Int), ()))).1, (((1 : Int) :: []), ()))).1, (true, ())))
  else none)
  else some ((f141 ((f176 (a0.2.1, ((Go.IntKind.wrap Go.IntKind.i64 ((2 : Int) - (Go.IntKind.wrap Go.IntKind.i64 (a2 - a0.2.2.1)))), ()))).1, ((2 : Int), ()))).1, (true, ())))
  else none)
  else none)
  else none)
  else bif (p141 ((f176 (a0.2.1, ((Go.IntKind.wrap Go.IntKind.i64 ((2 : Int) - (Go.IntKind.wrap Go.IntKind.i64 (a2 - a0.2.2.1)))), ()))).1, ((2 : Int), ()))) then
  (bif ((decide ((0 : Int) < ((f141 ((f176 (a0.2.1, ((Go.IntKind.wrap Go.IntKind.i64 ((2 : Int) - (Go.IntKind.wrap Go.IntKind.i64 (a2 - a0.2.2.1)))), ()))).1, ((2 : Int), ()))).1.length : Int))) || (!(decide (((f141 ((f176 (a0.2.1, ((Go.IntKind.wrap Go.IntKind.i64 ((2 : Int) - (Go.IntKind.wrap Go.IntKind.i64 (a2 - a0.2.2.1)))), ()))).1, ((2 : Int), ()))).1.length : Int) > (0 : Int))))) then
  (bif ((p177 (a1, (a0.1, (((decide (((f141 ((f176 (a0.2.1, ((Go.IntKind.wrap Go.IntKind.i64 ((2 : Int) - (Go.IntKind.wrap Go.IntKind.i64 (a2 - a0.2.2.1)))), ()))).1, ((2 : Int), ()))).1.length : Int) > (0 : Int))) && ((Vx.andI Go.IntKind.u64 ((f141 ((f176 (a0.2.1, ((Go.IntKind.wrap Go.IntKind.i64 ((2 : Int) - (Go.IntKind.wrap Go.IntKind.i64 (a2 - a0.2.2.1)))), ()))).1, ((2 : Int), ()))).1.getD (Int.toNat (0 : Int)) (0 : Int)) (1 : Int)) == (1 : Int))), ((0 : Int), ()))))) || true) then
  (some ((f141 ((f176 (a0.2.1, ((Go.IntKind.wrap Go.IntKind.i64 ((2 : Int) - (Go.IntKind.wrap Go.IntKind.i64 (a2 - a0.2.2.1)))), ()))).1, ((2 : Int), ()))).1, (false, ())))
  else none)
  else none)
  else none)
  else none
theorem r150 (p175 : DenS I175 → Bool) (f175 : DenS I175 → DenS O175) (p176 : DenS I176 → Bool) (f176 : DenS I176 → DenS O176) (p141 : DenS I141 → Bool) (f141 : DenS I141 → DenS O141) (p177 : DenS I177 → Bool) (f177 : DenS I177 → DenS O177) (p143 : DenS I143 → Bool) (f143 : DenS I143 → DenS O143) (a0 : Den (.pair (.bool) (.pair (.slice (.int .u64)) (.pair (.int .i64) (.pair (.bool) (.unit)))))) (a1 : Den (.int .i64)) (a2 : Den (.int .i64)) :
    run { P := Go.Proofs.Tryd.prog, sums := [(175, ⟨I175, O175, p175, f175⟩), (176, ⟨I176, O176, p176, f176⟩), (141, ⟨I141, O141, p141, f141⟩), (177, ⟨I177, O177, p177, f177⟩), (143, ⟨I143, O143, p143, f143⟩)], loops := [], globs := G1 } 9 150 Go.Proofs.Tryd.f150 I150 O150 (a0, a1, a2, ()) = t150 p175 f175 p176 f176 p141 f141 p177 f177 p143 f143 a0 a1 a2 := by kernel_rfl
noncomputable def T150 (x : DenS I150) : Option (DenS O150) := t150 S175.pre S175.F S176.pre S176.F S141.pre S141.F S177.pre S177.F S143.pre S143.F x.1 x.2.1 x.2.2.1
noncomputable def C150 : Cfg := { P := Go.Proofs.Tryd.prog, sums := [(175, S175), (176, S176), (141, S141), (177, S177), (143, S143)], loops := [], globs := G1 }
noncomputable def S150 : Sum := sumOf I150 O150 T150 (DenS.dflt O150)
theorem S150_sound : Sound Go.Proofs.Tryd.prog G1 150 S150 :=
  fn_sound C150 9 150 Go.Proofs.Tryd.f150 mixedOk (by kernel_rfl) (by kernel_rfl) (by kernel_rfl) ⟨S175_sound, ⟨S176_sound, ⟨S141_sound, ⟨S177_sound, ⟨S143_sound, trivial⟩⟩⟩⟩⟩ trivial I150 O150 T150 _ fun x => r150 S175.pre S175.F S176.pre S176.F S141.pre S141.F S177.pre S177.F S143.pre S143.F x.1 x.2.1 x.2.2.1
/-- vernier/format.Infinity -/
abbrev I97 : Sig := [(false, .int .i64), (false, .bool)]
abbrev O97 : Sig := [(false, .int .u64), (false, .int .i64)]
noncomputable def t97 (p116 : DenS I116 → Bool) (f116 : DenS I116 → DenS O116) (p69 : DenS I69 → Bool) (f69 : DenS I69 → DenS O69) (p91 : DenS I91 → Bool) (f91 : DenS I91 → DenS O91) (p140 : DenS I140 → Bool) (f140 : DenS I140 → DenS O140) (a0 : Den (.int .i64)) (a1 : Den (.bool)) : Option (DenS O97) :=
  bif (p69 (a0, ())) then
  (bif ((f69 (a0, ())).2.1 != (0 : Int)) then
  (some ((0 : Int), (f69 (a0, ())).2))
  else bif (p91 ((Go.IntKind.wrap Go.IntKind.i64 ((f69 (a0, ())).1.1 - (f69 (a0, ())).1.2.1)), ())) then
  (bif (p116 ((f69 (a0, ())).1, ())) then
  (bif (p116 ((f69 (a0, ())).1, ())) then
  (bif (p140 ((f69 (a0, ())).1, (a1, ((Go.IntKind.wrap Go.IntKind.u64 ((f91 ((Go.IntKind.wrap Go.IntKind.i64 ((f69 (a0, ())).1.1 - (f69 (a0, ())).1.2.1)), ())).1 - (f116 ((f69 (a0, ())).1, ())).1)), (f116 ((f69 (a0, ())).1, ())))))) then
  (some ((f140 ((f69 (a0, ())).1, (a1, ((Go.IntKind.wrap Go.IntKind.u64 ((f91 ((Go.IntKind.wrap Go.IntKind.i64 ((f69 (a0, ())).1.1 - (f69 (a0, ())).1.2.1)), ())).1 - (f116 ((f69 (a0, ())).1, ())).1)), (f116 ((f69 (a0, ())).1, ())))))).1, ((0 : Int), ())))
  else none)
  else none)
  else none)
  else none)
  else none
theorem r97 (p116 : DenS I116 → Bool) (f116 : DenS I116 → DenS O116) (p69 : DenS I69 → Bool) (f69 : DenS I69 → DenS O69) (p91 : DenS I91 → Bool) (f91 : DenS I91 → DenS O91) (p140 : DenS I140 → Bool) (f140 : DenS I140 → DenS O140) (a0 : Den (.int .i64)) (a1 : Den (.bool)) :
    run { P := Go.Proofs.Tryd.prog, sums := [(116, ⟨I116, O116, p116, f116⟩), (69, ⟨I69, O69, p69, f69⟩), (91, ⟨I91, O91, p91, f91⟩), (140, ⟨I140, O140, p140, f140⟩)], loops := [], globs := G1 } 9 97 Go.Proofs.Tryd.f97 I97 O97 (a0, a1, ()) = t97 p116 f116 p69 f69 p91 f91 p140 f140 a0 a1 := by kernel_rfl
noncomputable def T97 (x : DenS I97) : Option (DenS O97) := t97 S116.pre S116.F S69.pre S69.F S91.pre S91.F S140.pre S140.F x.1 x.2.1
noncomputable def C97 : Cfg := { P := Go.Proofs.Tryd.prog, sums := [(116, S116), (69, S69), (91, S91), (140, S140)], loops := [], globs := G1 }
noncomputable def S97 : Sum := sumOf I97 O97 T97 (DenS.dflt O97)
theorem S97_sound : Sound Go.Proofs.Tryd.prog G1 97 S97 :=
  fn_sound C97 9 97 Go.Proofs.Tryd.f97 mixedOk (by kernel_rfl) (by kernel_rfl) (by kernel_rfl) ⟨S116_sound.more G01, ⟨S69_sound.more G01, ⟨S91_sound.more G01, ⟨S140_sound.more G01, trivial⟩⟩⟩⟩ trivial I97 O97 T97 _ fun x => r97 S116.pre S116.F S69.pre S69.F S91.pre S91.F S140.pre S140.F x.1 x.2.1
/-- vernier/format.one -/
abbrev I95 : Sig := [(true, .pair (.int .i64) (.pair (.int .i64) (.pair (.int .i64) (.pair (.int .i64) (.unit)))))]
abbrev O95 : Sig := [(false, .int .u64)]
noncomputable def t95 (a0 : Den (.pair (.int .i64) (.pair (.int .i64) (.pair (.int .i64) (.pair (.int .i64) (.unit)))))) : Option (DenS O95) :=
  some ((1 : Int), ())
theorem r95 (a0 : Den (.pair (.int .i64) (.pair (.int .i64) (.pair (.int .i64) (.pair (.int .i64) (.unit)))))) :
    run { P := Go.Proofs.Tryd.prog, sums := [], loops := [], globs := G1 } 9 95 Go.Proofs.Tryd.f95 I95 O95 (a0, ()) = t95 a0 := by kernel_rfl
noncomputable def T95 (x : DenS I95) : Option (DenS O95) := t95 x.1
noncomputable def C95 : Cfg := { P := Go.Proofs.Tryd.prog, sums := [], loops := [], globs := G1 }
noncomputable def S95 : Sum := sumOf I95 O95 T95 (DenS.dflt O95)
theorem S95_sound : Sound Go.Proofs.Tryd.prog G1 95 S95 :=
  fn_sound C95 9 95 Go.Proofs.Tryd.f95 mixedOk (by kernel_rfl) (by kernel_rfl) (by kernel_rfl) trivial trivial I95 O95 T95 _ fun x => r95 x.1
/-- vernier/format.fraction -/
abbrev I96 : Sig := [(true, .pair (.int .i64) (.pair (.int .i64) (.pair (.int .i64) (.pair (.int .i64) (.unit)))))]
abbrev O96 : Sig := [(false, .int .u64)]
noncomputable def t96 (p91 : DenS I91 → Bool) (f91 : DenS I91 → DenS O91) (a0 : Den (.pair (.int .i64) (.pair (.int .i64) (.pair (.int .i64) (.pair (.int .i64) (.unit)))))) : Option (DenS O96) :=
  bif (p91 ((Go.IntKind.wrap Go.IntKind.i64 (a0.2.1 - (1 : Int))), ())) then
  (some (f91 ((Go.IntKind.wrap Go.IntKind.i64 (a0.2.1 - (1 : Int))), ())))
  else none
theorem r96 (p91 : DenS I91 → Bool) (f91 : DenS I91 → DenS O91) (a0 : Den (.pair (.int .i64) (.pair (.int .i64) (.pair (.int .i64) (.pair (.int .i64) (.unit)))))) :
    run { P := Go.Proofs.Tryd.prog, sums := [(91, ⟨I91, O91, p91, f91⟩)], loops := [], globs := G1 } 9 96 Go.Proofs.Tryd.f96 I96 O96 (a0, ()) = t96 p91 f91 a0 := by kernel_rfl
noncomputable def T96 (x : DenS I96) : Option (DenS O96) := t96 S91.pre S91.F x.1
noncomputable def C96 : Cfg := { P := Go.Proofs.Tryd.prog, sums := [(91, S91)], loops := [], globs := G1 }
noncomputable def S96 : Sum := sumOf I96 O96 T96 (DenS.dflt O96)
theorem S96_sound : Sound Go.Proofs.Tryd.prog G1 96 S96 :=
  fn_sound C96 9 96 Go.Proofs.Tryd.f96 mixedOk (by kernel_rfl) (by kernel_rfl) (by kernel_rfl) ⟨S91_sound.more G01, trivial⟩ trivial I96 O96 T96 _ fun x => r96 S91.pre S91.F x.1
/-- vernier/format.Greatest -/
abbrev I43 : Sig := [(false, .int .i64), (false, .bool)]
abbrev O43 : Sig := [(false, .int .u64), (false, .int .i64)]
noncomputable def t43 (p95 : DenS I95 → Bool) (f95 : DenS I95 → DenS O95) (p96 : DenS I96 → Bool) (f96 : DenS I96 → DenS O96) (p69 : DenS I69 → Bool) (f69 : DenS I69 → DenS O69) (p91 : DenS I91 → Bool) (f91 : DenS I91 → DenS O91) (p140 : DenS I140 → Bool) (f140 : DenS I140 → DenS O140) (a0 : Den (.int .i64)) (a1 : Den (.bool)) : Option (DenS O43) :=
  bif (p69 (a0, ())) then
  (bif ((f69 (a0, ())).2.1 != (0 : Int)) then
  (some ((0 : Int), (f69 (a0, ())).2))
  else bif (p91 ((Go.IntKind.wrap Go.IntKind.i64 ((f69 (a0, ())).1.1 - (f69 (a0, ())).1.2.1)), ())) then
  (bif (p95 ((f69 (a0, ())).1, ())) then
  (bif (p96 ((f69 (a0, ())).1, ())) then
  (bif (p140 ((f69 (a0, ())).1, (a1, ((Go.IntKind.wrap Go.IntKind.u64 ((f91 ((Go.IntKind.wrap Go.IntKind.i64 ((f69 (a0, ())).1.1 - (f69 (a0, ())).1.2.1)), ())).1 - (f95 ((f69 (a0, ())).1, ())).1)), (f96 ((f69 (a0, ())).1, ())))))) then
  (some ((f140 ((f69 (a0, ())).1, (a1, ((Go.IntKind.wrap Go.IntKind.u64 ((f91 ((Go.IntKind.wrap Go.IntKind.i64 ((f69 (a0, ())).1.1 - (f69 (a0, ())).1.2.1)), ())).1 - (f95 ((f69 (a0, ())).1, ())).1)), (f96 ((f69 (a0, ())).1, ())))))).1, ((0 : Int), ())))
  else none)
  else none)
  else none)
  else none)
  else none
theorem r43 (p95 : DenS I95 → Bool) (f95 : DenS I95 → DenS O95) (p96 : DenS I96 → Bool) (f96 : DenS I96 → DenS O96) (p69 : DenS I69 → Bool) (f69 : DenS I69 → DenS O69) (p91 : DenS I91 → Bool) (f91 : DenS I91 → DenS O91) (p140 : DenS I140 → Bool) (f140 : DenS I140 → DenS O140) (a0 : Den (.int .i64)) (a1 : Den (.bool)) :
    run { P := Go.Proofs.Tryd.prog, sums := [(95, ⟨I95, O95, p95, f95⟩), (96, ⟨I96, O96, p96, f96⟩), (69, ⟨I69, O69, p69, f69⟩), (91, ⟨I91, O91, p91, f91⟩), (140, ⟨I140, O140, p140, f140⟩)], loops := [], globs := G1 } 9 43 Go.Proofs.Tryd.f43 I43 O43 (a0, a1, ()) = t43 p95 f95 p96 f96 p69 f69 p91 f91 p140 f140 a0 a1 := by kernel_rfl
noncomputable def T43 (x : DenS I43) : Option (DenS O43) := t43 S95.pre S95.F S96.pre S96.F S69.pre S69.F S91.pre S91.F S140.pre S140.F x.1 x.2.1
noncomputable def C43 : Cfg := { P := Go.Proofs.Tryd.prog, sums := [(95, S95), (96, S96), (69, S69), (91, S91), (140, S140)], loops := [], globs := G1 }
noncomputable def S43 : Sum := sumOf I43 O43 T43 (DenS.dflt O43)
theorem S43_sound : Sound Go.Proofs.Tryd.prog G1 43 S43 :=
  fn_sound C43 9 43 Go.Proofs.Tryd.f43 mixedOk (by kernel_rfl) (by kernel_rfl) (by kernel_rfl) ⟨S95_sound, ⟨S96_sound, ⟨S69_sound.more G01, ⟨S91_sound.more G01, ⟨S140_sound.more G01, trivial⟩⟩⟩⟩⟩ trivial I43 O43 T43 _ fun x => r43 S95.pre S95.F S96.pre S96.F S69.pre S69.F S91.pre S91.F S140.pre S140.F x.1 x.2.1
/-- vernier/round.beyond -/
abbrev I149 : Sig := [(false, .int .i64), (false, .int .i64), (false, .bool)]
abbrev O149 : Sig := [(false, .int .u64)]
noncomputable def t149 (p97 : DenS I97 → Bool) (f97 : DenS I97 → DenS O97) (p43 : DenS I43 → Bool) (f43 : DenS I43 → DenS O43) (a0 : Den (.int .i64)) (a1 : Den (.int .i64)) (a2 : Den (.bool)) : Option (DenS O149) :=
  bif ((((a1 == (0 : Int)) || (a1 == (1 : Int))) || ((a1 == (3 : Int)) && (!a2))) || ((a1 == (4 : Int)) && a2)) then
  (bif (p97 (a0, (a2, ()))) then
  (some ((f97 (a0, (a2, ()))).1, ()))
  else none)
  else bif (p43 (a0, (a2, ()))) then
  (some ((f43 (a0, (a2, ()))).1, ()))
  else none
theorem r149 (p97 : DenS I97 → Bool) (f97 : DenS I97 → DenS O97) (p43 : DenS I43 → Bool) (f43 : DenS I43 → DenS O43) (a0 : Den (.int .i64)) (a1 : Den (.int .i64)) (a2 : Den (.bool)) :
    run { P := Go.Proofs.Tryd.prog, sums := [(97, ⟨I97, O97, p97, f97⟩), (43, ⟨I43, O43, p43, f43⟩)], loops := [], globs := G1 } 9 149 Go.Proofs.Tryd.f149 I149 O149 (a0, a1, a2, ()) = t149 p97 f97 p43 f43 a0 a1 a2 := by kernel_rfl
noncomputable def T149 (x : DenS I149) : Option (DenS O149) := t149 S97.pre S97.F S43.pre S43.F x.1 x.2.1 x.2.2.1
noncomputable def C149 : Cfg := { P := Go.Proofs.Tryd.prog, sums := [(97, S97), (43, S43)], loops := [], globs := G1 }
noncomputable def S149 : Sum := sumOf I149 O149 T149 (DenS.dflt O149)
theorem S149_sound : Sound Go.Proofs.Tryd.prog G1 149 S149 :=
  fn_sound C149 9 149 Go.Proofs.Tryd.f149 mixedOk (by kernel_rfl) (by kernel_rfl) (by kernel_rfl) ⟨S97_sound, ⟨S43_sound, trivial⟩⟩ trivial I149 O149 T149 _ fun x => r149 S97.pre S97.F S43.pre S43.F x.1 x.2.1 x.2.2.1
/-- (vernier/round.number).tiny -/
abbrev I152 : Sig := [(true, .pair (.bool) (.pair (.slice (.int .u64)) (.pair (.int .i64) (.pair (.bool) (.unit))))), (true, .pair (.int .i64) (.pair (.int .i64) (.pair (.int .i64) (.pair (.int .i64) (.unit))))), (false, .int .i64), (false, .int .i64)]
abbrev O152 : Sig := [(false, .bool)]
noncomputable def t152 (p150 : DenS I150 → Bool) (f150 : DenS I150 → DenS O150) (p151 : DenS I151 → Bool) (f151 : DenS I151 → DenS O151) (a0 : Den (.pair (.bool) (.pair (.slice (.int .u64)) (.pair (.int .i64) (.pair (.bool) (.unit)))))) (a1 : Den (.pair (.int .i64) (.pair (.int .i64) (.pair (.int .i64) (.pair (.int .i64) (.unit)))))) (a2 : Den (.int .i64)) (a3 : Den (.int .i64)) : Option (DenS O152) :=
  bif (decide (a3 ≥ a1.2.2.1)) then
  (some (false, ()))
  else bif (p150 ((a0.1, a0.2), (a2, ((Go.IntKind.wrap Go.IntKind.i64 ((Go.IntKind.wrap Go.IntKind.i64 (a3 - a1.2.1)) + (1 : Int))), ())))) then
  (bif (p151 ((f150 ((a0.1, a0.2), (a2, ((Go.IntKind.wrap Go.IntKind.i64 ((Go.IntKind.wrap Go.IntKind.i64 (a3 - a1.2.1)) + (1 : Int))), ())))).1, ())) then
  (some ((decide ((Go.IntKind.wrap Go.IntKind.i64 ((Go.IntKind.wrap Go.IntKind.i64 (a3 - a1.2.1)) + (f151 ((f150 ((a0.1, a0.2), (a2, ((Go.IntKind.wrap Go.IntKind.i64 ((Go.IntKind.wrap Go.IntKind.i64 (a3 - a1.2.1)) + (1 : Int))), ())))).1, ())).1)) < a1.2.2.1)), ()))
  else none)
  else none
theorem r152 (p150 : DenS I150 → Bool) (f150 : DenS I150 → DenS O150) (p151 : DenS I151 → Bool) (f151 : DenS I151 → DenS O151) (a0 : Den (.pair (.bool) (.pair (.slice (.int .u64)) (.pair (.int .i64) (.pair (.bool) (.unit)))))) (a1 : Den (.pair (.int .i64) (.pair (.int .i64) (.pair (.int .i64) (.pair (.int .i64) (.unit)))))) (a2 : Den (.int .i64)) (a3 : Den (.int .i64)) :
    run { P := Go.Proofs.Tryd.prog, sums := [(150, ⟨I150, O150, p150, f150⟩), (151, ⟨I151, O151, p151, f151⟩)], loops := [], globs := G1 } 9 152 Go.Proofs.Tryd.f152 I152 O152 (a0, a1, a2, a3, ()) = t152 p150 f150 p151 f151 a0 a1 a2 a3 := by kernel_rfl
noncomputable def T152 (x : DenS I152) : Option (DenS O152) := t152 S150.pre S150.F S151.pre S151.F x.1 x.2.1 x.2.2.1 x.2.2.2.1
noncomputable def C152 : Cfg := { P := Go.Proofs.Tryd.prog, sums := [(150, S150), (151, S151)], loops := [], globs := G1 }
noncomputable def S152 : Sum := sumOf I152 O152 T152 (DenS.dflt O152)
theorem S152_sound : Sound Go.Proofs.Tryd.prog G1 152 S152 :=
  fn_sound C152 9 152 Go.Proofs.Tryd.f152 mixedOk (by kernel_rfl) (by kernel_rfl) (by kernel_rfl) ⟨S150_sound, ⟨S151_sound, trivial⟩⟩ trivial I152 O152 T152 _ fun x => r152 S150.pre S150.F S151.pre S151.F x.1 x.2.1 x.2.2.1 x.2.2.2.1
/-- (vernier/round.number).into -/
abbrev I107 : Sig := [(true, .pair (.bool) (.pair (.slice (.int .u64)) (.pair (.int .i64) (.pair (.bool) (.unit))))), (false, .int .i64), (true, .pair (.int .i64) (.pair (.int .i64) (.pair (.int .i64) (.pair (.int .i64) (.unit))))), (false, .int .i64)]
abbrev O107 : Sig := [(false, .int .u64), (false, .int .i64)]
noncomputable def t107 (p148 : DenS I148 → Bool) (f148 : DenS I148 → DenS O148) (p150 : DenS I150 → Bool) (f150 : DenS I150 → DenS O150) (p151 : DenS I151 → Bool) (f151 : DenS I151 → DenS O151) (p149 : DenS I149 → Bool) (f149 : DenS I149 → DenS O149) (p152 : DenS I152 → Bool) (f152 : DenS I152 → DenS O152) (a0 : Den (.pair (.bool) (.pair (.slice (.int .u64)) (.pair (.int .i64) (.pair (.bool) (.unit)))))) (a1 : Den (.int .i64)) (a2 : Den (.pair (.int .i64) (.pair (.int .i64) (.pair (.int .i64) (.pair (.int .i64) (.unit)))))) (a3 : Den (.int .i64)) : Option (DenS O107) :=
  bif (p148 ((a0.1, a0.2), ())) then
  (bif (decide ((f148 ((a0.1, a0.2), ())).1 > a2.2.2.2.1)) then
  (bif (p149 (a1, (a3, (a0.1, ())))) then
  (some ((f149 (a1, (a3, (a0.1, ())))).1, ((20 : Int), ())))
  else none)
  else bif (p150 ((a0.1, a0.2), (a3, ((Go.IntKind.wrap Go.IntKind.i64 ((Go.IntKind.wrap Go.IntKind.i64 ((if (a2.2.2.1 > (f148 ((a0.1, a0.2), ())).1) then a2.2.2.1 else (f148 ((a0.1, a0.2), ())).1) - a2.2.1)) + (1 : Int))), ())))) then
  (bif (decide ((0 : Int) ≤ (Go.IntKind.wrap Go.IntKind.i64 (a2.2.1 - (1 : Int))))) then
  (bif (decide (((f150 ((a0.1, a0.2), (a3, ((Go.IntKind.wrap Go.IntKind.i64 ((Go.IntKind.wrap Go.IntKind.i64 ((if (a2.2.2.1 > (f148 ((a0.1, a0.2), ())).1) then a2.2.2.1 else (f148 ((a0.1, a0.2), ())).1) - a2.2.1)) + (1 : Int))), ())))).1.length : Int) > (0 : Int))) then
  (bif (decide ((0 : Int) < ((f150 ((a0.1, a0.2), (a3, ((Go.IntKind.wrap Go.IntKind.i64 ((Go.IntKind.wrap Go.IntKind.i64 ((if (a2.2.2.1 > (f148 ((a0.1, a0.2), ())).1) then a2.2.2.1 else (f148 ((a0.1, a0.2), ())).1) - a2.2.1)) + (1 : Int))), ())))).1.length : Int))) then
  (bif (p151 ((f150 ((a0.1, a0.2), (a3, ((Go.IntKind.wrap Go.IntKind.i64 ((Go.IntKind.wrap Go.IntKind.i64 ((if (a2.2.2.1 > (f148 ((a0.1, a0.2), ())).1) then a2.2.2.1 else (f148 ((a0.1, a0.2), ())).1) - a2.2.1)) + (1 : Int))), ())))).1, ())) then
  (bif (decide ((Go.IntKind.wrap Go.IntKind.i64 ((Go.IntKind.wrap Go.IntKind.i64 ((Go.IntKind.wrap Go.IntKind.i64 ((Go.IntKind.wrap Go.IntKind.i64 ((if (a2.2.2.1 > (f148 ((a0.1, a0.2), ())).1) then a2.2.2.1 else (f148 ((a0.1, a0.2), ())).1) - a2.2.1)) + (1 : Int))) + (f151 ((f150 ((a0.1, a0.2), (a3, ((Go.IntKind.wrap Go.IntKind.i64 ((Go.IntKind.wrap Go.IntKind.i64 ((if (a2.2.2.1 > (f148 ((a0.1, a0.2), ())).1) then a2.2.2.1 else (f148 ((a0.1, a0.2), ())).1) - a2.2.1)) + (1 : Int))), ())))).1, ())).1)) - (1 : Int))) > a2.2.2.2.1)) then
  (bif (p149 (a1, (a3, (a0.1, ())))) then
  (some ((f149 (a1, (a3, (a0.1, ())))).1, ((20 : Int), ())))
  else none)
  else bif a0.1 then
  (bif (decide ((0 : Int) ≤ (Go.IntKind.wrap Go.IntKind.i64 (a2.1 - (1 : Int))))) then
  (bif (!(f150 ((a0.1, a0.2), (a3, ((Go.IntKind.wrap Go.IntKind.i64 ((Go.IntKind.wrap Go.IntKind.i64 ((if (a2.2.2.1 > (f148 ((a0.1, a0.2), ())).1) then a2.2.2.1 else (f148 ((a0.1, a0.2), ())).1) - a2.2.1)) + (1 : Int))), ())))).2.1) then
  (some ((Vx.orI Go.IntKind.u64 (Go.IntKind.wrap Go.IntKind.u64 ((Vx.shlI Go.IntKind.u64 (Go.IntKind.wrap Go.IntKind.u64 (Go.IntKind.wrap Go.IntKind.i64 ((Go.IntKind.wrap Go.IntKind.i64 ((Go.IntKind.wrap Go.IntKind.i64 ((if (a2.2.2.1 > (f148 ((a0.1, a0.2), ())).1) then a2.2.2.1 else (f148 ((a0.1, a0.2), ())).1) - a2.2.1)) + (1 : Int))) - (Go.IntKind.wrap Go.IntKind.i64 ((Go.IntKind.wrap Go.IntKind.i64 (a2.2.2.1 - a2.2.1)) + (1 : Int)))))) (Go.IntKind.wrap Go.IntKind.i64 (a2.2.1 - (1 : Int)))) + ((f150 ((a0.1, a0.2), (a3, ((Go.IntKind.wrap Go.IntKind.i64 ((Go.IntKind.wrap Go.IntKind.i64 ((if (a2.2.2.1 > (f148 ((a0.1, a0.2), ())).1) then a2.2.2.1 else (f148 ((a0.1, a0.2), ())).1) - a2.2.1)) + (1 : Int))), ())))).1.getD (Int.toNat (0 : Int)) (0 : Int)))) (Vx.shlI Go.IntKind.u64 (1 : Int) (Go.IntKind.wrap Go.IntKind.i64 (a2.1 - (1 : Int))))), ((0 : Int), ())))
  else bif (p152 ((a0.1, a0.2), ((a2.1, a2.2), (a3, (f148 ((a0.1, a0.2), ())))))) then
  (bif (f152 ((a0.1, a0.2), ((a2.1, a2.2), (a3, (f148 ((a0.1, a0.2), ())))))).1 then
  (some ((Vx.orI Go.IntKind.u64 (Go.IntKind.wrap Go.IntKind.u64 ((Vx.shlI Go.IntKind.u64 (Go.IntKind.wrap Go.IntKind.u64 (Go.IntKind.wrap Go.IntKind.i64 ((Go.IntKind.wrap Go.IntKind.i64 ((Go.IntKind.wrap Go.IntKind.i64 ((if (a2.2.2.1 > (f148 ((a0.1, a0.2), ())).1) then a2.2.2.1 else (f148 ((a0.1, a0.2), ())).1) - a2.2.1)) + (1 : Int))) - (Go.IntKind.wrap Go.IntKind.i64 ((Go.IntKind.wrap Go.IntKind.i64 (a2.2.2.1 - a2.2.1)) + (1 : Int)))))) (Go.IntKind.wrap Go.IntKind.i64 (a2.2.1 - (1 : Int)))) + ((f150 ((a0.1, a0.2), (a3, ((Go.IntKind.wrap Go.IntKind.i64 ((Go.IntKind.wrap Go.IntKind.i64 ((if (a2.2.2.1 > (f148 ((a0.1, a0.2), ())).1) then a2.2.2.1 else (f148 ((a0.1, a0.2), ())).1) - a2.2.1)) + (1 : Int))), ())))).1.getD (Int.toNat (0 : Int)) (0 : Int)))) (Vx.shlI Go.IntKind.u64 (1 : Int) (Go.IntKind.wrap Go.IntKind.i64 (a2.1 - (1 : Int))))), ((24 : Int), ())))
  else some ((Vx.orI Go.IntKind.u64 (Go.IntKind.wrap Go.IntKind.u64 ((Vx.shlI Go.IntKind.u64 (Go.IntKind.wrap Go.IntKind.u64 (Go.IntKind.wrap Go.IntKind.i64 ((Go.IntKind.wrap Go.IntKind.i64 ((Go.IntKind.wrap Go.IntKind.i64 ((if (a2.2.2.1 > (f148 ((a0.1, a0.2), ())).1) then a2.2.2.1 else (f148 ((a0.1, a0.2), ())).1) - a2.2.1)) + (1 : Int))) - (Go.IntKind.wrap Go.IntKind.i64 ((Go.IntKind.wrap Go.IntKind.i64 (a2.2.2.1 - a2.2.1)) + (1 : Int)))))) (Go.IntKind.wrap Go.IntKind.i64 (a2.2.1 - (1 : Int)))) + ((f150 ((a0.1, a0.2), (a3, ((Go.IntKind.wrap Go.IntKind.i64 ((Go.IntKind.wrap Go.IntKind.i64 ((if (a2.2.2.1 > (f148 ((a0.1, a0.2), ())).1) then a2.2.2.1 else (f148 ((a0.1, a0.2), ())).1) - a2.2.1)) + (1 : Int))), ())))).1.getD (Int.toNat (0 : Int)) (0 : Int)))) (Vx.shlI Go.IntKind.u64 (1 : Int) (Go.IntKind.wrap Go.IntKind.i64 (a2.1 - (1 : Int))))), ((16 : Int), ())))
  else none)
  else none)
  else bif (!(f150 ((a0.1, a0.2), (a3, ((Go.IntKind.wrap Go.IntKind.i64 ((Go.IntKind.wrap Go.IntKind.i64 ((if (a2.2.2.1 > (f148 ((a0.1, a0.2), ())).1) then a2.2.2.1 else (f148 ((a0.1, a0.2), ())).1) - a2.2.1)) + (1 : Int))), ())))).2.1) then
  (some ((Go.IntKind.wrap Go.IntKind.u64 ((Vx.shlI Go.IntKind.u64 (Go.IntKind.wrap Go.IntKind.u64 (Go.IntKind.wrap Go.IntKind.i64 ((Go.IntKind.wrap Go.IntKind.i64 ((Go.IntKind.wrap Go.IntKind.i64 ((if (a2.2.2.1 > (f148 ((a0.1, a0.2), ())).1) then a2.2.2.1 else (f148 ((a0.1, a0.2), ())).1) - a2.2.1)) + (1 : Int))) - (Go.IntKind.wrap Go.IntKind.i64 ((Go.IntKind.wrap Go.IntKind.i64 (a2.2.2.1 - a2.2.1)) + (1 : Int)))))) (Go.IntKind.wrap Go.IntKind.i64 (a2.2.1 - (1 : Int)))) + ((f150 ((a0.1, a0.2), (a3, ((Go.IntKind.wrap Go.IntKind.i64 ((Go.IntKind.wrap Go.IntKind.i64 ((if (a2.2.2.1 > (f148 ((a0.1, a0.2), ())).1) then a2.2.2.1 else (f148 ((a0.1, a0.2), ())).1) - a2.2.1)) + (1 : Int))), ())))).1.getD (Int.toNat (0 : Int)) (0 : Int)))), ((0 : Int), ())))
  else bif (p152 ((a0.1, a0.2), ((a2.1, a2.2), (a3, (f148 ((a0.1, a0.2), ())))))) then
  (bif (f152 ((a0.1, a0.2), ((a2.1, a2.2), (a3, (f148 ((a0.1, a0.2), ())))))).1 then
  (some ((Go.IntKind.wrap Go.IntKind.u64 ((Vx.shlI Go.IntKind.u64 (Go.IntKind.wrap Go.IntKind.u64 (Go.IntKind.wrap Go.IntKind.i64 ((Go.IntKind.wrap Go.IntKind.i64 ((Go.IntKind.wrap Go.IntKind.i64 ((if (a2.2.2.1 > (f148 ((a0.1, a0.2), ())).1) then a2.2.2.1 else (f148 ((a0.1, a0.2), ())).1) - a2.2.1)) + (1 : Int))) - (Go.IntKind.wrap Go.IntKind.i64 ((Go.IntKind.wrap Go.IntKind.i64 (a2.2.2.1 - a2.2.1)) + (1 : Int)))))) (Go.IntKind.wrap Go.IntKind.i64 (a2.2.1 - (1 : Int)))) + ((f150 ((a0.1, a0.2), (a3, ((Go.IntKind.wrap Go.IntKind.i64 ((Go.IntKind.wrap Go.IntKind.i64 ((if (a2.2.2.1 > (f148 ((a0.1, a0.2), ())).1) then a2.2.2.1 else (f148 ((a0.1, a0.2), ())).1) - a2.2.1)) + (1 : Int))), ())))).1.getD (Int.toNat (0 : Int)) (0 : Int)))), ((24 : Int), ())))
  else some ((Go.IntKind.wrap Go.IntKind.u64 ((Vx.shlI Go.IntKind.u64 (Go.IntKind.wrap Go.IntKind.u64 (Go.IntKind.wrap Go.IntKind.i64 ((Go.IntKind.wrap Go.IntKind.i64 ((Go.IntKind.wrap Go.IntKind.i64 ((if (a2.2.2.1 > (f148 ((a0.1, a0.2), ())).1) then a2.2.2.1 else (f148 ((a0.1, a0.2), ())).1) - a2.2.1)) + (1 : Int))) - (Go.IntKind.wrap Go.IntKind.i64 ((Go.IntKind.wrap Go.IntKind.i64 (a2.2.2.1 - a2.2.1)) + (1 : Int)))))) (Go.IntKind.wrap Go.IntKind.i64 (a2.2.1 - (1 : Int)))) + ((f150 ((a0.1, a0.2), (a3, ((Go.IntKind.wrap Go.IntKind.i64 ((Go.IntKind.wrap Go.IntKind.i64 ((if (a2.2.2.1 > (f148 ((a0.1, a0.2), ())).1) then a2.2.2.1 else (f148 ((a0.1, a0.2), ())).1) - a2.2.1)) + (1 : Int))), ())))).1.getD (Int.toNat (0 : Int)) (0 : Int)))), ((16 : Int), ())))
  else none)
  else none)
  else none)
  else bif (p151 ((f150 ((a0.1, a0.2), (a3, ((Go.IntKind.wrap Go.IntKind.i64 ((Go.IntKind.wrap Go.IntKind.i64 ((if (a2.2.2.1 > (f148 ((a0.1, a0.2), ())).1) then a2.2.2.1 else (f148 ((a0.1, a0.2), ())).1) - a2.2.1)) + (1 : Int))), ())))).1, ())) then
  (bif (decide ((Go.IntKind.wrap Go.IntKind.i64 ((Go.IntKind.wrap Go.IntKind.i64 ((Go.IntKind.wrap Go.IntKind.i64 ((Go.IntKind.wrap Go.IntKind.i64 ((if (a2.2.2.1 > (f148 ((a0.1, a0.2), ())).1) then a2.2.2.1 else (f148 ((a0.1, a0.2), ())).1) - a2.2.1)) + (1 : Int))) + (f151 ((f150 ((a0.1, a0.2), (a3, ((Go.IntKind.wrap Go.IntKind.i64 ((Go.IntKind.wrap Go.IntKind.i64 ((if (a2.2.2.1 > (f148 ((a0.1, a0.2), ())).1) then a2.2.2.1 else (f148 ((a0.1, a0.2), ())).1) - a2.2.1)) + (1 : Int))), ())))).1, ())).1)) - (1 : Int))) > a2.2.2.2.1)) then
  (bif (p149 (a1, (a3, (a0.1, ())))) then
  (some ((f149 (a1, (a3, (a0.1, ())))).1, ((20 : Int), ())))
  else none)
  else bif a0.1 then
  (bif (decide ((0 : Int) ≤ (Go.IntKind.wrap Go.IntKind.i64 (a2.1 - (1 : Int))))) then
  (bif (!(f150 ((a0.1, a0.2), (a3, ((Go.IntKind.wrap Go.IntKind.i64 ((Go.IntKind.wrap Go.IntKind.i64 ((if (a2.2.2.1 > (f148 ((a0.1, a0.2), ())).1) then a2.2.2.1 else (f148 ((a0.1, a0.2), ())).1) - a2.2.1)) + (1 : Int))), ())))).2.1) then
  (some ((Vx.orI Go.IntKind.u64 (Vx.shlI Go.IntKind.u64 (Go.IntKind.wrap Go.IntKind.u64 (Go.IntKind.wrap Go.IntKind.i64 ((Go.IntKind.wrap Go.IntKind.i64 ((Go.IntKind.wrap Go.IntKind.i64 ((if (a2.2.2.1 > (f148 ((a0.1, a0.2), ())).1) then a2.2.2.1 else (f148 ((a0.1, a0.2), ())).1) - a2.2.1)) + (1 : Int))) - (Go.IntKind.wrap Go.IntKind.i64 ((Go.IntKind.wrap Go.IntKind.i64 (a2.2.2.1 - a2.2.1)) + (1 : Int)))))) (Go.IntKind.wrap Go.IntKind.i64 (a2.2.1 - (1 : Int)))) (Vx.shlI Go.IntKind.u64 (1 : Int) (Go.IntKind.wrap Go.IntKind.i64 (a2.1 - (1 : Int))))), ((0 : Int), ())))
  else bif (p152 ((a0.1, a0.2), ((a2.1, a2.2), (a3, (f148 ((a0.1, a0.2), ())))))) then
  (bif (f152 ((a0.1, a0.2), ((a2.1, a2.2), (a3, (f148 ((a0.1, a0.2), ())))))).1 then
  (some ((Vx.orI Go.IntKind.u64 (Vx.shlI Go.IntKind.u64 (Go.IntKind.wrap Go.IntKind.u64 (Go.IntKind.wrap Go.IntKind.i64 ((Go.IntKind.wrap Go.IntKind.i64 ((Go.IntKind.wrap Go.IntKind.i64 ((if (a2.2.2.1 > (f148 ((a0.1, a0.2), ())).1) then a2.2.2.1 else (f148 ((a0.1, a0.2), ())).1) - a2.2.1)) + (1 : Int))) - (Go.IntKind.wrap Go.IntKind.i64 ((Go.IntKind.wrap Go.IntKind.i64 (a2.2.2.1 - a2.2.1)) + (1 : Int)))))) (Go.IntKind.wrap Go.IntKind.i64 (a2.2.1 - (1 : Int)))) (Vx.shlI Go.IntKind.u64 (1 : Int) (Go.IntKind.wrap Go.IntKind.i64 (a2.1 - (1 : Int))))), ((24 : Int), ())))
  else some ((Vx.orI Go.IntKind.u64 (Vx.shlI Go.IntKind.u64 (Go.IntKind.wrap Go.IntKind.u64 (Go.IntKind.wrap Go.IntKind.i64 ((Go.IntKind.wrap Go.IntKind.i64 ((Go.IntKind.wrap Go.IntKind.i64 ((if (a2.2.2.1 > (f148 ((a0.1, a0.2), ())).1) then a2.2.2.1 else (f148 ((a0.1, a0.2), ())).1) - a2.2.1)) + (1 : Int))) - (Go.IntKind.wrap Go.IntKind.i64 ((Go.IntKind.wrap Go.IntKind.i64 (a2.2.2.1 - a2.2.1)) + (1 : Int)))))) (Go.IntKind.wrap Go.IntKind.i64 (a2.2.1 - (1 : Int)))) (Vx.shlI Go.IntKind.u64 (1 : Int) (Go.IntKind.wrap Go.IntKind.i64 (a2.1 - (1 : Int))))), ((16 : Int), ())))
  else none)
  else none)
  else bif (!(f150 ((a0.1, a0.2), (a3, ((Go.IntKind.wrap Go.IntKind.i64 ((Go.IntKind.wrap Go.IntKind.i64 ((if (a2.2.2.1 > (f148 ((a0.1, a0.2), ())).1) then a2.2.2.1 else (f148 ((a0.1, a0.2), ())).1) - a2.2.1)) + (1 : Int))), ())))).2.1) then
  (some ((Vx.shlI Go.IntKind.u64 (Go.IntKind.wrap Go.IntKind.u64 (Go.IntKind.wrap Go.IntKind.i64 ((Go.IntKind.wrap Go.IntKind.i64 ((Go.IntKind.wrap Go.IntKind.i64 ((if (a2.2.2.1 > (f148 ((a0.1, a0.2), ())).1) then a2.2.2.1 else (f148 ((a0.1, a0.2), ())).1) - a2.2.1)) + (1 : Int))) - (Go.IntKind.wrap Go.IntKind.i64 ((Go.IntKind.wrap Go.IntKind.i64 (a2.2.2.1 - a2.2.1)) + (1 : Int)))))) (Go.IntKind.wrap Go.IntKind.i64 (a2.2.1 - (1 : Int)))), ((0 : Int), ())))
  else bif (p152 ((a0.1, a0.2), ((a2.1, a2.2), (a3, (f148 ((a0.1, a0.2), ())))))) then
  (bif (f152 ((a0.1, a0.2), ((a2.1, a2.2), (a3, (f148 ((a0.1, a0.2), ())))))).1 then
  (some ((Vx.shlI Go.IntKind.u64 (Go.IntKind.wrap Go.IntKind.u64 (Go.IntKind.wrap Go.IntKind.i64 ((Go.IntKind.wrap Go.IntKind.i64 ((Go.IntKind.wrap Go.IntKind.i64 ((if (a2.2.2.1 > (f148 ((a0.1, a0.2), ())).1) then a2.2.2.1 else (f148 ((a0.1, a0.2), ())).1) - a2.2.1)) + (1 : Int))) - (Go.IntKind.wrap Go.IntKind.i64 ((Go.IntKind.wrap Go.IntKind.i64 (a2.2.2.1 - a2.2.1)) + (1 : Int)))))) (Go.IntKind.wrap Go.IntKind.i64 (a2.2.1 - (1 : Int)))), ((24 : Int), ())))
  else some ((Vx.shlI Go.IntKind.u64 (Go.IntKind.wrap Go.IntKind.u64 (Go.IntKind.wrap Go.IntKind.i64 ((Go.IntKind.wrap Go.IntKind.i64 ((Go.IntKind.wrap Go.IntKind.i64 ((if (a2.2.2.1 > (f148 ((a0.1, a0.2), ())).1) then a2.2.2.1 else (f148 ((a0.1, a0.2), ())).1) - a2.2.1)) + (1 : Int))) - (Go.IntKind.wrap Go.IntKind.i64 ((Go.IntKind.wrap Go.IntKind.i64 (a2.2.2.1 - a2.2.1)) + (1 : Int)))))) (Go.IntKind.wrap Go.IntKind.i64 (a2.2.1 - (1 : Int)))), ((16 : Int), ())))
  else none)
  else none)
  else none)
  else none)
  else none
theorem r107 (p148 : DenS I148 → Bool) (f148 : DenS I148 → DenS O148) (p150 : DenS I150 → Bool) (f150 : DenS I150 → DenS O150) (p151 : DenS I151 → Bool) (f151 : DenS I151 → DenS O151) (p149 : DenS I149 → Bool) (f149 : DenS I149 → DenS O149) (p152 : DenS I152 → Bool) (f152 : DenS I152 → DenS O152) (a0 : Den (.pair (.bool) (.pair (.slice (.int .u64)) (.pair (.int .i64) (.pair (.bool) (.unit)))))) (a1 : Den (.int .i64)) (a2 : Den (.pair (.int .i64) (.pair (.int .i64) (.pair (.int .i64) (.pair (.int .i64) (.unit)))))) (a3 : Den (.int .i64)) :
    run { P := Go.Proofs.Tryd.prog, sums := [(148, ⟨I148, O148, p148, f148⟩), (150, ⟨I150, O150, p150, f150⟩), (151, ⟨I151, O151, p151, f151⟩), (149, ⟨I149, O149, p149, f149⟩), (152, ⟨I152, O152, p152, f152⟩)], loops := [], globs := G1 } 9 107 Go.Proofs.Tryd.f107 I107 O107 (a0, a1, a2, a3, ()) = t107 p148 f148 p150 f150 p151 f151 p149 f149 p152 f152 a0 a1 a2 a3 := by kernel_rfl
noncomputable def T107 (x : DenS I107) : Option (DenS O107) := t107 S148.pre S148.F S150.pre S150.F S151.pre S151.F S149.pre S149.F S152.pre S152.F x.1 x.2.1 x.2.2.1 x.2.2.2.1
noncomputable def C107 : Cfg := { P := Go.Proofs.Tryd.prog, sums := [(148, S148), (150, S150), (151, S151), (149, S149), (152, S152)], loops := [], globs := G1 }
noncomputable def S107 : Sum := sumOf I107 O107 T107 (DenS.dflt O107)
theorem S107_sound : Sound Go.Proofs.Tryd.prog G1 107 S107 :=
  fn_sound C107 9 107 Go.Proofs.Tryd.f107 mixedOk (by kernel_rfl) (by kernel_rfl) (by kernel_rfl) ⟨S148_sound, ⟨S150_sound, ⟨S151_sound, ⟨S149_sound, ⟨S152_sound, trivial⟩⟩⟩⟩⟩ trivial I107 O107 T107 _ fun x => r107 S148.pre S148.F S150.pre S150.F S151.pre S151.F S149.pre S149.F S152.pre S152.F x.1 x.2.1 x.2.2.1 x.2.2.2.1
end Vx
namespace Vx
open Go
theorem pre147 {x : DenS I147} {y : DenS O147} (h : T147 x = some y) : S147.pre x = true := sum_pre (T := T147) h
theorem fun147 {x : DenS I147} {y : DenS O147} (h : T147 x = some y) : S147.F x = y := sum_F (T := T147) h
theorem pre105 {x : DenS I105} {y : DenS O105} (h : T105 x = some y) : S105.pre x = true := sum_pre (T := T105) h
theorem fun105 {x : DenS I105} {y : DenS O105} (h : T105 x = some y) : S105.F x = y := sum_F (T := T105) h
theorem pre173 {x : DenS I173} {y : DenS O173} (h : T173 x = some y) : S173.pre x = true := sum_pre (T := T173) h
theorem fun173 {x : DenS I173} {y : DenS O173} (h : T173 x = some y) : S173.F x = y := sum_F (T := T173) h
theorem pre146 {x : DenS I146} {y : DenS O146} (h : T146 x = some y) : S146.pre x = true := sum_pre (T := T146) h
theorem fun146 {x : DenS I146} {y : DenS O146} (h : T146 x = some y) : S146.F x = y := sum_F (T := T146) h
theorem pre102 {x : DenS I102} {y : DenS O102} (h : T102 x = some y) : S102.pre x = true := sum_pre (T := T102) h
theorem fun102 {x : DenS I102} {y : DenS O102} (h : T102 x = some y) : S102.F x = y := sum_F (T := T102) h
theorem pre178 {x : DenS I178} {y : DenS O178} (h : T178 x = some y) : S178.pre x = true := sum_pre (T := T178) h
theorem fun178 {x : DenS I178} {y : DenS O178} (h : T178 x = some y) : S178.F x = y := sum_F (T := T178) h
theorem pre151 {x : DenS I151} {y : DenS O151} (h : T151 x = some y) : S151.pre x = true := sum_pre (T := T151) h
theorem fun151 {x : DenS I151} {y : DenS O151} (h : T151 x = some y) : S151.F x = y := sum_F (T := T151) h
theorem pre148 {x : DenS I148} {y : DenS O148} (h : T148 x = some y) : S148.pre x = true := sum_pre (T := T148) h
theorem fun148 {x : DenS I148} {y : DenS O148} (h : T148 x = some y) : S148.F x = y := sum_F (T := T148) h
theorem pre1173 {x : DenS I1173} {y : DenS O1173} (h : T1173 x = some y) : S1173.pre x = true := sum_pre (T := T1173) h
theorem fun1173 {x : DenS I1173} {y : DenS O1173} (h : T1173 x = some y) : S1173.F x = y := sum_F (T := T1173) h
theorem pre1171 {x : DenS I1171} {y : DenS O1171} (h : T1171 x = some y) : S1171.pre x = true := sum_pre (T := T1171) h
theorem fun1171 {x : DenS I1171} {y : DenS O1171} (h : T1171 x = some y) : S1171.F x = y := sum_F (T := T1171) h
theorem pre171 {x : DenS I171} {y : DenS O171} (h : T171 x = some y) : S171.pre x = true := sum_pre (T := T171) h
theorem fun171 {x : DenS I171} {y : DenS O171} (h : T171 x = some y) : S171.F x = y := sum_F (T := T171) h
theorem pre92 {x : DenS I92} {y : DenS O92} (h : T92 x = some y) : S92.pre x = true := sum_pre (T := T92) h
theorem fun92 {x : DenS I92} {y : DenS O92} (h : T92 x = some y) : S92.F x = y := sum_F (T := T92) h
theorem pre184 {x : DenS I184} {y : DenS O184} (h : T184 x = some y) : S184.pre x = true := sum_pre (T := T184) h
theorem fun184 {x : DenS I184} {y : DenS O184} (h : T184 x = some y) : S184.F x = y := sum_F (T := T184) h
theorem pre175 {x : DenS I175} {y : DenS O175} (h : T175 x = some y) : S175.pre x = true := sum_pre (T := T175) h
theorem fun175 {x : DenS I175} {y : DenS O175} (h : T175 x = some y) : S175.F x = y := sum_F (T := T175) h
theorem pre186 {x : DenS I186} {y : DenS O186} (h : T186 x = some y) : S186.pre x = true := sum_pre (T := T186) h
theorem fun186 {x : DenS I186} {y : DenS O186} (h : T186 x = some y) : S186.F x = y := sum_F (T := T186) h
theorem pre185 {x : DenS I185} {y : DenS O185} (h : T185 x = some y) : S185.pre x = true := sum_pre (T := T185) h
theorem fun185 {x : DenS I185} {y : DenS O185} (h : T185 x = some y) : S185.F x = y := sum_F (T := T185) h
theorem pre176 {x : DenS I176} {y : DenS O176} (h : T176 x = some y) : S176.pre x = true := sum_pre (T := T176) h
theorem fun176 {x : DenS I176} {y : DenS O176} (h : T176 x = some y) : S176.F x = y := sum_F (T := T176) h
theorem pre141 {x : DenS I141} {y : DenS O141} (h : T141 x = some y) : S141.pre x = true := sum_pre (T := T141) h
theorem fun141 {x : DenS I141} {y : DenS O141} (h : T141 x = some y) : S141.F x = y := sum_F (T := T141) h
theorem pre177 {x : DenS I177} {y : DenS O177} (h : T177 x = some y) : S177.pre x = true := sum_pre (T := T177) h
theorem fun177 {x : DenS I177} {y : DenS O177} (h : T177 x = some y) : S177.F x = y := sum_F (T := T177) h
theorem pre143 {x : DenS I143} {y : DenS O143} (h : T143 x = some y) : S143.pre x = true := sum_pre (T := T143) h
theorem fun143 {x : DenS I143} {y : DenS O143} (h : T143 x = some y) : S143.F x = y := sum_F (T := T143) h
theorem pre150 {x : DenS I150} {y : DenS O150} (h : T150 x = some y) : S150.pre x = true := sum_pre (T := T150) h
theorem fun150 {x : DenS I150} {y : DenS O150} (h : T150 x = some y) : S150.F x = y := sum_F (T := T150) h
theorem pre97 {x : DenS I97} {y : DenS O97} (h : T97 x = some y) : S97.pre x = true := sum_pre (T := T97) h
theorem fun97 {x : DenS I97} {y : DenS O97} (h : T97 x = some y) : S97.F x = y := sum_F (T := T97) h
theorem pre43 {x : DenS I43} {y : DenS O43} (h : T43 x = some y) : S43.pre x = true := sum_pre (T := T43) h
theorem fun43 {x : DenS I43} {y : DenS O43} (h : T43 x = some y) : S43.F x = y := sum_F (T := T43) h
theorem pre149 {x : DenS I149} {y : DenS O149} (h : T149 x = some y) : S149.pre x = true := sum_pre (T := T149) h
theorem fun149 {x : DenS I149} {y : DenS O149} (h : T149 x = some y) : S149.F x = y := sum_F (T := T149) h
theorem pre152 {x : DenS I152} {y : DenS O152} (h : T152 x = some y) : S152.pre x = true := sum_pre (T := T152) h
theorem fun152 {x : DenS I152} {y : DenS O152} (h : T152 x = some y) : S152.F x = y := sum_F (T := T152) h
theorem pre107 {x : DenS I107} {y : DenS O107} (h : T107 x = some y) : S107.pre x = true := sum_pre (T := T107) h
theorem fun107 {x : DenS I107} {y : DenS O107} (h : T107 x = some y) : S107.F x = y := sum_F (T := T107) h
end Vx
namespace VL
open Go Vx
/-- words: below 2^64 each, not too many -/
def Ws (l : List Nat) : Prop := (∀ x ∈ l, x < 2 ^ 64) ∧ l.length ≤ 1000000
theorem W173_eq (l : List Nat) (hl : l.length ≤ 1000000) (n : Nat) (hn : n ≤ l.length) (ht : (trimL l).length ≤ n) :
    W173_2 ((Wd l, ((n : Int), ())), ()) = some (.inl ((Wd l, (((trimL l).length : Int), ())), ())) := by
  have key := lfix_ind m173_2 (fun x => x.1.2.1.toNat)
    (fun x => ∃ n : Nat, n ≤ l.length ∧ (trimL l).length ≤ n ∧ x = ((Wd l, ((n : Int), ())), ()))
    (fun _ => .inl ((Wd l, (((trimL l).length : Int), ())), ())) ?_ ((Wd l, ((n : Int), ())), ()) ⟨n, hn, ht, rfl⟩
  · exact key
  intro L x hx hL
  obtain ⟨n, hn, ht, rfl⟩ := hx
  unfold h173_2
  rcases Nat.eq_zero_or_pos n with rfl | hpos
  · have e1 : decide (((0 : Nat) : Int) > 0) = false := rfl
    simp only [e1, Bool.not_false, Bool.or_true, cond_true, Bool.false_and, cond_false]
    have : (trimL l).length = 0 := by omega
    rw [this]
  · have e0 : IntKind.wrap .i64 ((n : Int) - 1) = ((n - 1 : Nat) : Int) := wsub n 1 (by omega) (by omega)
    have e1 : decide ((n : Int) > 0) = true := by simp; omega
    have e2 : (decide ((0 : Int) ≤ ((n - 1 : Nat) : Int)) && decide (((n - 1 : Nat) : Int) < ((Wd l).length : Int))) = true := by
      rw [Wd_len]; simp; omega
    simp only [e0, e1, e2, Bool.true_or, cond_true, Bool.true_and, Int.toNat_natCast, Wd_getD, nbeq0]
    cases hz : (l.getD (n - 1) 0 == 0) with
    | true =>
      simp only [cond_true]
      refine hL _ ⟨n - 1, by omega, ?_, rfl⟩ (by simp only [Int.toNat_natCast]; omega)
      rcases Nat.lt_or_ge (n - 1) (trimL l).length with h | h
      · exfalso
        have e : n = (trimL l).length := by omega
        have := trim_last l (by omega)
        rw [← e] at this
        exact this (by simpa using hz)
      · exact h
    | false =>
      simp only [cond_false]
      have : (trimL l).length = n := by
        rcases Nat.lt_or_ge (n - 1) (trimL l).length with h | h
        · omega
        · exfalso
          have := trim_out l (n - 1) h
          rw [this] at hz
          simp at hz
      rw [this]
theorem T173_eq (l : List Nat) (hl : l.length ≤ 1000000) : T173 (Wd l, ()) = some (Wd (trimL l), ()) := by
  show t173 W173_2 (Wd l) = _
  unfold t173
  have h := W173_eq l hl l.length (Nat.le_refl _) (trim_len l).1
  rw [Wd_len]
  rw [h]
  have e : (decide ((0 : Int) ≤ ((trimL l).length : Int)) && decide (((trimL l).length : Int) ≤ ((Wd l).length : Int))) = true := by
    rw [Wd_len]; have := (trim_len l).1; simp; omega
  show (bif (decide ((0 : Int) ≤ ((trimL l).length : Int)) && decide (((trimL l).length : Int) ≤ ((Wd l).length : Int))) then some (List.drop (Int.toNat 0) (List.take (Int.toNat ((trimL l).length : Int)) (Wd l)), ()) else none) = _
  rw [e, cond_true, Int.toNat_natCast, Int.toNat_zero, List.drop_zero, Wd_take]
  have := (trim_len l).2
  rw [← this]
/-- how many bits -/
def blen (n : Nat) : Nat := if n = 0 then 0 else Nat.log2 n + 1
theorem blen_lt (n : Nat) : n < 2 ^ blen n := by
  unfold blen
  split
  · subst_vars; decide
  · exact Nat.lt_log2_self
theorem blen_le {n : Nat} (h : n ≠ 0) : 2 ^ (blen n - 1) ≤ n := by
  unfold blen
  rw [if_neg h]
  exact Nat.log2_self_le h
theorem blen_of {n k : Nat} (h1 : 2 ^ k ≤ n) (h2 : n < 2 ^ (k + 1)) : blen n = k + 1 := by
  have hp := Nat.two_pow_pos k
  have hn : n ≠ 0 := by omega
  have a1 := blen_lt n
  have a2 := blen_le hn
  have b1 : blen n - 1 < k + 1 := (Nat.pow_lt_pow_iff_right (by decide)).1 (Nat.lt_of_le_of_lt a2 h2)
  have b2 : k < blen n := (Nat.pow_lt_pow_iff_right (by decide)).1 (Nat.lt_of_le_of_lt h1 a1)
  omega
theorem blen_shift {n k : Nat} (h : 2 ^ k ≤ n) : blen n = k + blen (n / 2 ^ k) := by
  have hp := Nat.two_pow_pos k
  have hq : 0 < n / 2 ^ k := Nat.div_pos h hp
  have a1 := blen_lt (n / 2 ^ k)
  have a2 := blen_le (n := n / 2 ^ k) (by omega)
  have hb : 0 < blen (n / 2 ^ k) := by unfold blen; rw [if_neg (by omega)]; omega
  have h1 : 2 ^ (k + (blen (n / 2 ^ k) - 1)) ≤ n := by
    rw [Nat.pow_add]
    calc 2 ^ k * 2 ^ (blen (n / 2 ^ k) - 1) ≤ 2 ^ k * (n / 2 ^ k) := Nat.mul_le_mul_left _ a2
      _ ≤ n := Nat.mul_div_le n _
  have h2 : n < 2 ^ (k + (blen (n / 2 ^ k) - 1) + 1) := by
    rw [show k + (blen (n / 2 ^ k) - 1) + 1 = k + blen (n / 2 ^ k) by omega, Nat.pow_add, Nat.mul_comm]
    exact (Nat.div_lt_iff_lt_mul hp).1 a1
  have := blen_of h1 h2
  omega
theorem len8 : ∀ i : Nat, i < 256 → (k_len8.getD i 0).toNat = blen i := by
  have h : ((List.range 256).all fun i => decide ((k_len8.getD i 0).toNat = blen i)) = true := by decide +kernel
  intro i hi
  have := List.all_eq_true.1 h i (List.mem_range.2 hi)
  simpa using this
theorem T178_eq (n : Nat) (hn : n < 2 ^ 64) : T178 ((n : Int), ()) = some ((blen n : Int), ()) := by
  have hs : ∀ m k : Nat, k ≤ 64 → shrI .u64 (m : Int) (k : Int) = ((m / 2 ^ k : Nat) : Int) := fun m k hk => shrN m k hk
  have s32 : ∀ m : Nat, shrI .u64 (m : Int) 32 = ((m / 2 ^ 32 : Nat) : Int) := fun m => hs m 32 (by decide)
  have s16 : ∀ m : Nat, shrI .u64 (m : Int) 16 = ((m / 2 ^ 16 : Nat) : Int) := fun m => hs m 16 (by decide)
  have s8 : ∀ m : Nat, shrI .u64 (m : Int) 8 = ((m / 2 ^ 8 : Nat) : Int) := fun m => hs m 8 (by decide)
  have ge : ∀ m k : Nat, decide ((m : Int) ≥ (k : Int)) = decide (k ≤ m) := fun m k => by rw [Bool.eq_iff_iff]; simp
  have g32 : ∀ m : Nat, decide ((m : Int) ≥ 4294967296) = decide (2 ^ 32 ≤ m) := fun m => ge m (2 ^ 32)
  have g16 : ∀ m : Nat, decide ((m : Int) ≥ 65536) = decide (2 ^ 16 ≤ m) := fun m => ge m (2 ^ 16)
  have g8 : ∀ m : Nat, decide ((m : Int) ≥ 256) = decide (2 ^ 8 ≤ m) := fun m => ge m (2 ^ 8)
  -- the last look
  have tab : ∀ m : Nat, m < 256 → IntKind.wrap .u8 (m : Int) = (m : Int) := fun m hm => IntWalk.u8_in _ (by omega)
  have look : ∀ (m : Nat) (c : Int) (d : Nat), m < 256 → c = (d : Int) → d ≤ 56 → (bif (decide ((0 : Int) ≤ IntKind.wrap .u8 (m : Int)) && decide (IntKind.wrap .u8 (m : Int) < (256 : Int))) then (some (IntKind.wrap .i64 (c + IntKind.wrap .i64 ((UInt8.toNat (k_len8.getD (Int.toNat (IntKind.wrap .u8 (m : Int))) 0) : Nat) : Int)), ()) : Option (DenS O178)) else none) = some (((d + blen m : Nat) : Int), ()) := fun m c d hm hc hd => by
    have e : (decide ((0 : Int) ≤ (m : Int)) && decide ((m : Int) < (256 : Int))) = true := by simp; omega
    have hb : blen m ≤ 8 := by
      have := len8 m hm
      rcases Nat.eq_zero_or_pos m with rfl | hpos
      · decide
      · have := blen_le (n := m) (by omega)
        have h8 : blen m - 1 < 8 := (Nat.pow_lt_pow_iff_right (a := 2) (by decide)).1 (Nat.lt_of_le_of_lt this hm)
        omega
    rw [tab m hm, e, cond_true, Int.toNat_natCast, len8 m hm, hc, wrapI (n := ((blen m : Nat) : Int)) (by omega), wrapI (by omega)]
    rfl
  show t178 n = _
  unfold t178
  have fin : ∀ (k : Nat), 2 ^ k ≤ n → k + blen (n / 2 ^ k) = blen n := fun k h => (blen_shift h).symm
  have dd : ∀ a b : Nat, n / 2 ^ a / 2 ^ b = n / 2 ^ (a + b) := fun a b => by rw [Nat.div_div_eq_div_mul, ← Nat.pow_add]
  have up : ∀ a b : Nat, 2 ^ b ≤ n / 2 ^ a → 2 ^ (a + b) ≤ n := fun a b h => by
    rw [Nat.pow_add, Nat.mul_comm]
    exact (Nat.le_div_iff_mul_le (Nat.two_pow_pos a)).1 h
  have down : ∀ a b : Nat, n / 2 ^ a < 2 ^ b → n < 2 ^ (a + b) := fun a b h => by
    rw [Nat.pow_add, Nat.mul_comm]
    exact (Nat.div_lt_iff_lt_mul (Nat.two_pow_pos a)).1 h
  have small : ∀ a : Nat, n < 2 ^ (a + 8) → n / 2 ^ a < 256 := fun a h => by
    rw [Nat.div_lt_iff_lt_mul (Nat.two_pow_pos a), Nat.mul_comm]
    rw [Nat.pow_add] at h; exact h
  simp only [s32, s16, s8, g32, g16, g8]
  by_cases h1 : 2 ^ 32 ≤ n
  · rw [decide_eq_true h1, cond_true]
    by_cases h2 : 2 ^ 16 ≤ n / 2 ^ 32
    · rw [decide_eq_true h2, cond_true]
      by_cases h3 : 2 ^ 8 ≤ n / 2 ^ 32 / 2 ^ 16
      · rw [decide_eq_true h3, cond_true]
        rw [dd 32 16] at h3
        have hm : n / 2 ^ 32 / 2 ^ 16 / 2 ^ 8 = n / 2 ^ 56 := by rw [dd 32 16, dd 48 8]
        refine (look (n / 2 ^ 32 / 2 ^ 16 / 2 ^ 8) _ 56 (by rw [hm]; exact small 56 hn) rfl (by decide)).trans ?_
        rw [hm, fin 56 (up 48 8 h3)]
      · rw [decide_eq_false h3, cond_false]
        rw [dd 32 16] at h3
        refine (look (n / 2 ^ 32 / 2 ^ 16) _ 48 (by rw [dd 32 16]; exact small 48 (down 48 8 (by omega))) rfl (by decide)).trans ?_
        rw [dd 32 16, fin 48 (up 32 16 h2)]
    · rw [decide_eq_false h2, cond_false]
      by_cases h3 : 2 ^ 8 ≤ n / 2 ^ 32
      · rw [decide_eq_true h3, cond_true]
        refine (look (n / 2 ^ 32 / 2 ^ 8) _ 40 (by rw [dd 32 8]; exact small 40 (down 32 16 (by omega))) rfl (by decide)).trans ?_
        rw [dd 32 8, fin 40 (up 32 8 h3)]
      · rw [decide_eq_false h3, cond_false]
        refine (look (n / 2 ^ 32) _ 32 (small 32 (down 32 8 (by omega))) rfl (by decide)).trans ?_
        rw [fin 32 h1]
  · rw [decide_eq_false h1, cond_false]
    by_cases h2 : 2 ^ 16 ≤ n
    · rw [decide_eq_true h2, cond_true]
      by_cases h3 : 2 ^ 8 ≤ n / 2 ^ 16
      · rw [decide_eq_true h3, cond_true]
        refine (look (n / 2 ^ 16 / 2 ^ 8) _ 24 (by rw [dd 16 8]; exact small 24 (by omega)) rfl (by decide)).trans ?_
        rw [dd 16 8, fin 24 (up 16 8 h3)]
      · rw [decide_eq_false h3, cond_false]
        refine (look (n / 2 ^ 16) _ 16 (small 16 (down 16 8 (by omega))) rfl (by decide)).trans ?_
        rw [fin 16 h2]
    · rw [decide_eq_false h2, cond_false]
      by_cases h3 : 2 ^ 8 ≤ n
      · rw [decide_eq_true h3, cond_true]
        refine (look (n / 2 ^ 8) _ 8 (small 8 (by omega)) rfl (by decide)).trans ?_
        rw [fin 8 h3]
      · rw [decide_eq_false h3, cond_false]
        refine (look n 0 0 (by omega) rfl (by decide)).trans ?_
        rw [Nat.zero_add]
end VL
namespace VL
open Go Vx
theorem nv_append (B : Nat) : ∀ (l m : List Nat), nv B (l ++ m) = nv B l + B ^ l.length * nv B m
  | [], m => by simp [nv]
  | x :: r, m => by
    simp only [List.cons_append, nv, List.length_cons]
    rw [nv_append B r m, Nat.pow_succ, Nat.mul_add, Nat.add_assoc]
    congr 2
    rw [Nat.mul_comm (B ^ r.length) B, Nat.mul_assoc]
theorem nv_lt {B : Nat} (hB : 2 ≤ B) : ∀ (l : List Nat), (∀ x ∈ l, x < B) → nv B l < B ^ l.length
  | [], _ => by simp [nv]
  | x :: r, h => by
    have ih := nv_lt hB r fun y hy => h y (by simp [hy])
    have hx := h x (by simp)
    simp only [nv, List.length_cons, Nat.pow_succ]
    have : B * nv B r ≤ B * (B ^ r.length - 1) := Nat.mul_le_mul_left _ (by omega)
    have hp : 0 < B ^ r.length := Nat.pow_pos (by omega)
    rw [Nat.mul_sub] at this
    have h1 : B * 1 ≤ B * B ^ r.length := Nat.mul_le_mul_left _ hp
    rw [Nat.mul_comm (B ^ r.length) B]
    omega
theorem nv_split (B : Nat) (l : List Nat) (i : Nat) (h : i ≤ l.length) : nv B l = nv B (l.take i) + B ^ i * nv B (l.drop i) := by
  conv => lhs; rw [← List.take_append_drop i l]
  rw [nv_append]
  simp [h]
theorem nv_trim {B : Nat} (hB : 2 ≤ B) {l : List Nat} (h : ∀ x ∈ l, x < B) : nv B (trimL l) = nv B l := by
  rw [trim_dg hB l h, nv_dg hB]
theorem trim_mem {l : List Nat} {x : Nat} (h : x ∈ trimL l) : x ∈ l := by
  rw [(trim_len l).2] at h
  exact List.mem_of_mem_take h
theorem trim_get {l : List Nat} {i : Nat} (h : i < (trimL l).length) : (trimL l)[i]? = l[i]? := by
  have : (trimL l)[i]? = (l.take (trimL l).length)[i]? := congrArg (fun t : List Nat => t[i]?) (trim_len l).2
  rw [this, List.getElem?_take_of_lt h]
/-- the value that two powers of two split -/
theorem blen_split {a b k : Nat} (ha : a < 2 ^ k) (hb : 0 < b) : blen (a + 2 ^ k * b) = k + blen b := by
  have hp := Nat.two_pow_pos k
  have h1 : 2 ^ k * 1 ≤ 2 ^ k * b := Nat.mul_le_mul_left _ hb
  rw [blen_shift (n := a + 2 ^ k * b) (k := k) (by omega), Nat.add_mul_div_left _ _ hp, Nat.div_eq_of_lt ha, Nat.zero_add]
theorem pow64 (i : Nat) : (2 ^ 64) ^ i = 2 ^ (64 * i) := by rw [← Nat.pow_mul]
/-- the bits of a row -/
theorem blen_row {l : List Nat} (h : ∀ x ∈ l, x < 2 ^ 64) (hl : 0 < (trimL l).length) : blen (nv (2 ^ 64) l) = 64 * ((trimL l).length - 1) + blen (l.getD ((trimL l).length - 1) 0) := by
  have hlast := trim_last l hl
  have hle := (trim_len l).1
  rw [← nv_trim (by decide) h]
  have hm : ∀ x ∈ trimL l, x < 2 ^ 64 := fun x hx => h x (trim_mem hx)
  rw [nv_split _ (trimL l) ((trimL l).length - 1) (by omega), pow64]
  have hd : (trimL l).drop ((trimL l).length - 1) = [l.getD ((trimL l).length - 1) 0] := by
    have hlt : (trimL l).length - 1 < (trimL l).length := by omega
    rw [List.drop_eq_getElem_cons hlt]
    have e1 : (trimL l).length - 1 + 1 = (trimL l).length := by omega
    rw [e1, List.drop_length]
    congr 1
    have : (trimL l)[(trimL l).length - 1]? = l[(trimL l).length - 1]? := trim_get hlt
    rw [List.getElem?_eq_getElem hlt] at this
    rw [List.getD_eq_getElem?_getD, ← this]
    rfl
  rw [hd]
  have hlow := nv_lt (B := 2 ^ 64) (by decide) ((trimL l).take ((trimL l).length - 1)) fun x hx => hm x (List.mem_of_mem_take hx)
  rw [List.length_take, Nat.min_eq_left (by omega), pow64] at hlow
  have : nv (2 ^ 64) [l.getD ((trimL l).length - 1) 0] = l.getD ((trimL l).length - 1) 0 := by simp [nv]
  rw [this]
  exact blen_split hlow (by omega)
theorem trim_nil {l : List Nat} (h : ∀ x ∈ l, x < 2 ^ 64) (h0 : (trimL l).length = 0) : nv (2 ^ 64) l = 0 := by
  have : trimL l = [] := List.eq_nil_of_length_eq_zero h0
  rw [← nv_trim (by decide) h, this]; rfl
theorem getD_lt {l : List Nat} {B : Nat} (hB : 0 < B) (h : ∀ x ∈ l, x < B) (i : Nat) : l.getD i 0 < B := by
  rw [List.getD_eq_getElem?_getD]
  cases e : l[i]? with
  | none => exact hB
  | some x => exact h x (List.mem_of_getElem? e)
theorem T151_eq (l : List Nat) (hl : Ws l) : T151 (Wd l, ()) = some ((blen (nv (2 ^ 64) l) : Int), ()) := by
  obtain ⟨h, hlen⟩ := hl
  show t151 S173.pre S173.F S178.pre S178.F (Wd l) = _
  unfold t151
  have p0 := T173_eq l hlen
  have hle := (trim_len l).1
  simp only [pre173 p0, fun173 p0, cond_true, Wd_len]
  rcases Nat.eq_zero_or_pos (trimL l).length with h0 | h0
  · rw [h0, trim_nil h h0]; rfl
  · have e0 : (((trimL l).length : Int) == 0) = false := by rw [nbeq0]; exact beq_false_of_ne (by omega)
    have e1 : IntKind.wrap .i64 (((trimL l).length : Int) - 1) = (((trimL l).length - 1 : Nat) : Int) := wsub (trimL l).length 1 (by omega) (by omega)
    have e2 : (decide ((0 : Int) ≤ (((trimL l).length - 1 : Nat) : Int)) && decide ((((trimL l).length - 1 : Nat) : Int) < ((trimL l).length : Int))) = true := by simp only [Bool.and_eq_true, decide_eq_true_eq]; omega
    have e3 : (Wd (trimL l)).getD ((trimL l).length - 1) 0 = ((l.getD ((trimL l).length - 1) 0 : Nat) : Int) := by
      rw [Wd_getD]
      congr 1
      rw [List.getD_eq_getElem?_getD, List.getD_eq_getElem?_getD]
      rw [trim_get (by omega)]
    have hd := getD_lt (by decide) h ((trimL l).length - 1)
    have p1 := T178_eq _ hd
    have hb : blen (l.getD ((trimL l).length - 1) 0) ≤ 64 := by
      rcases Nat.eq_zero_or_pos (l.getD ((trimL l).length - 1) 0) with z | z
      · rw [z]; decide
      · have := blen_le (n := l.getD ((trimL l).length - 1) 0) (by omega)
        have : blen (l.getD ((trimL l).length - 1) 0) - 1 < 64 := (Nat.pow_lt_pow_iff_right (a := 2) (by decide)).1 (Nat.lt_of_le_of_lt this hd)
        omega
    rw [e0, e1, e2, cond_false, cond_true, Int.toNat_natCast, e3]
    simp only [pre178 p1, fun178 p1, cond_true]
    rw [blen_row h h0, wrapI (n := 64 * (((trimL l).length - 1 : Nat) : Int)) (by omega), wrapI (by omega)]
    congr 2
end VL
namespace VL
open Go Vx
theorem wrapN (x : Nat) : IntKind.wrap .u64 (x : Int) = ((x % 2 ^ 64 : Nat) : Int) := by
  simp [IntKind.wrap, IntKind.bits, IntKind.signed]
  try omega
theorem shlN (x n : Nat) (hn : n ≤ 64) : shlI .u64 (x : Int) (n : Int) = ((x * 2 ^ n % 2 ^ 64 : Nat) : Int) := by
  have hm : (min (n : Int).toNat IntKind.u64.bits) = n := by simp [IntKind.bits]; omega
  unfold shlI
  rw [hm]
  have e : (x : Int) * 2 ^ n = ((x * 2 ^ n : Nat) : Int) := by simp
  rw [e]
  exact wrapN _
theorem orN {a b k : Nat} (ha : a < 2 ^ k) (h : a + b * 2 ^ k < 2 ^ 64) : orI .u64 (a : Int) ((b * 2 ^ k : Nat) : Int) = ((a + b * 2 ^ k : Nat) : Int) := by
  have key : (BitVec.ofInt 64 (a : Int) ||| BitVec.ofInt 64 ((b * 2 ^ k : Nat) : Int)).toNat = a + b * 2 ^ k := by
    rw [BitVec.toNat_or, ofInt_u64 (by omega), ofInt_u64 (by omega), Nat.mul_comm b, Nat.or_comm, ← Nat.two_pow_add_eq_or_of_lt ha]
    omega
  show IntKind.u64.wrap (((BitVec.ofInt 64 (a : Int) ||| BitVec.ofInt 64 ((b * 2 ^ k : Nat) : Int)).toNat : Nat) : Int) = _
  rw [key]
  exact wrapU (by omega)
/-- a row of words by 2^s -/
def shrL (s : Nat) : List Nat → List Nat
  | [] => []
  | x :: r => (x / 2 ^ s + (r.getD 0 0 % 2 ^ s) * 2 ^ (64 - s)) :: shrL s r
theorem shrL_len (s : Nat) : ∀ l, (shrL s l).length = l.length
  | [] => rfl
  | _ :: r => by simp [shrL, shrL_len s r]
theorem shrL_get (s : Nat) : ∀ (l : List Nat) (i : Nat), i < l.length → (shrL s l)[i]? = some (l.getD i 0 / 2 ^ s + (l.getD (i + 1) 0 % 2 ^ s) * 2 ^ (64 - s))
  | [], i, h => by simp at h
  | x :: r, 0, _ => by simp [shrL]
  | x :: r, i + 1, h => by
    simp only [shrL, List.getElem?_cons_succ]
    rw [shrL_get s r i (by simpa using h)]
    simp
theorem pow_parts {s : Nat} (hs : s ≤ 64) : 2 ^ 64 = 2 ^ s * 2 ^ (64 - s) := by rw [← Nat.pow_add]; congr 1; omega
theorem shr_word {s : Nat} (hs : s ≤ 64) {x y : Nat} (hx : x < 2 ^ 64) : x / 2 ^ s < 2 ^ (64 - s) ∧ x / 2 ^ s + (y % 2 ^ s) * 2 ^ (64 - s) < 2 ^ 64 := by
  have hp := Nat.two_pow_pos s
  have h1 : x / 2 ^ s < 2 ^ (64 - s) := by
    rw [Nat.div_lt_iff_lt_mul hp, Nat.mul_comm, ← pow_parts hs]; exact hx
  refine ⟨h1, ?_⟩
  have h2 : y % 2 ^ s + 1 ≤ 2 ^ s := Nat.mod_lt _ hp
  have h3 := Nat.mul_le_mul_right (2 ^ (64 - s)) h2
  rw [← pow_parts hs, Nat.add_mul, Nat.one_mul] at h3
  omega
theorem nv_mod {B : Nat} {s : Nat} (hB : B % 2 ^ s = 0) : ∀ l : List Nat, nv B l % 2 ^ s = l.getD 0 0 % 2 ^ s
  | [] => by simp [nv]
  | x :: r => by
    simp only [nv, List.getD_cons_zero]
    obtain ⟨c, hc⟩ := Nat.dvd_of_mod_eq_zero hB
    rw [hc, Nat.mul_assoc, Nat.add_mul_mod_self_left]
theorem nv_shrL {s : Nat} (hs : s ≤ 64) : ∀ l : List Nat, nv (2 ^ 64) (shrL s l) = nv (2 ^ 64) l / 2 ^ s
  | [] => by simp [shrL, nv]
  | x :: r => by
    have ih := nv_shrL hs r
    simp only [shrL, nv]
    rw [ih]
    have hp := Nat.two_pow_pos s
    have hm := nv_mod (B := 2 ^ 64) (s := s) (by rw [pow_parts hs]; exact Nat.mul_mod_right _ _) r
    rw [← hm]
    have hN : nv (2 ^ 64) r = 2 ^ s * (nv (2 ^ 64) r / 2 ^ s) + nv (2 ^ 64) r % 2 ^ s := (Nat.div_add_mod _ _).symm
    generalize nv (2 ^ 64) r / 2 ^ s = q at *
    generalize nv (2 ^ 64) r % 2 ^ s = t at *
    rw [hN]
    have e : x + 2 ^ 64 * (2 ^ s * q + t) = x + 2 ^ s * (2 ^ 64 * q + 2 ^ (64 - s) * t) := by
      rw [Nat.mul_add, Nat.mul_add]
      have e1 : 2 ^ 64 * (2 ^ s * q) = 2 ^ s * (2 ^ 64 * q) := by rw [← Nat.mul_assoc, ← Nat.mul_assoc, Nat.mul_comm (2 ^ 64) (2 ^ s)]
      have e2 : 2 ^ 64 * t = 2 ^ s * (2 ^ (64 - s) * t) := by rw [← Nat.mul_assoc, ← pow_parts hs]
      rw [e1, e2]
    rw [e, Nat.add_mul_div_left _ _ hp, Nat.mul_comm t]
    omega
end VL
namespace VL
open Go Vx
theorem set_next {O : List Nat} {i v : Nat} (hi : i < O.length) (hv : O[i]? = some v) : (O.take i ++ List.replicate (O.length - i) 0).set i v = O.take (i + 1) ++ List.replicate (O.length - (i + 1)) 0 := by
  have e : O.length - i = (O.length - (i + 1)) + 1 := by omega
  have hl : (O.take i).length = i := by simp; omega
  rw [e, List.replicate_succ, List.set_append_right _ _ (by omega), hl, Nat.sub_self, List.set_cons_zero]
  rw [List.take_succ, hv]
  simp
theorem getD_set {l : List Nat} {i v : Nat} (hi : i < l.length) : (l.set i v).getD i 0 = v := by
  rw [List.getD_eq_getElem?_getD, List.getElem?_set_self hi]; rfl
theorem drop_getD (l : List Nat) (w i : Nat) : (l.drop w).getD i 0 = l.getD (w + i) 0 := by
  rw [List.getD_eq_getElem?_getD, List.getD_eq_getElem?_getD, List.getElem?_drop]
theorem quoN (n : Nat) (hn : n ≤ 1000000000) : quoI .i64 (n : Int) 64 = ((n / 64 : Nat) : Int) := by
  unfold quoI
  have e : (n : Int).tdiv 64 = ((n / 64 : Nat) : Int) := rfl
  rw [e, wrapI (by omega)]
theorem W1173_eq (l : List Nat) (hl : l.length ≤ 1000000) (n : Nat) (hn : n ≤ l.length) (ht : (trimL l).length ≤ n) :
    W1173_2 (((), ((n : Int), ())), (Wd l, ())) = some (.inl (((), (((trimL l).length : Int), ())), (Wd l, ()))) := by
  have key := lfix_ind m1173_2 (fun x => x.1.2.1.toNat)
    (fun x => ∃ n : Nat, n ≤ l.length ∧ (trimL l).length ≤ n ∧ x = (((), ((n : Int), ())), (Wd l, ())))
    (fun _ => .inl (((), (((trimL l).length : Int), ())), (Wd l, ()))) ?_ (((), ((n : Int), ())), (Wd l, ())) ⟨n, hn, ht, rfl⟩
  · exact key
  intro L x hx hL
  obtain ⟨n, hn, ht, rfl⟩ := hx
  unfold h1173_2
  rcases Nat.eq_zero_or_pos n with rfl | hpos
  · have e1 : decide (((0 : Nat) : Int) > 0) = false := rfl
    simp only [e1, Bool.not_false, Bool.or_true, cond_true, Bool.false_and, cond_false]
    have : (trimL l).length = 0 := by omega
    rw [this]
  · have e0 : IntKind.wrap .i64 ((n : Int) - 1) = ((n - 1 : Nat) : Int) := wsub n 1 (by omega) (by omega)
    have e1 : decide ((n : Int) > 0) = true := by simp; omega
    have e2 : (decide ((0 : Int) ≤ ((n - 1 : Nat) : Int)) && decide (((n - 1 : Nat) : Int) < ((Wd l).length : Int))) = true := by
      rw [Wd_len]; simp; omega
    simp only [e0, e1, e2, Bool.true_or, cond_true, Bool.true_and, Int.toNat_natCast, Wd_getD, nbeq0]
    cases hz : (l.getD (n - 1) 0 == 0) with
    | true =>
      simp only [cond_true]
      refine hL _ ⟨n - 1, by omega, ?_, rfl⟩ (by simp only [Int.toNat_natCast]; omega)
      rcases Nat.lt_or_ge (n - 1) (trimL l).length with h | h
      · exfalso
        have e : n = (trimL l).length := by omega
        have := trim_last l (by omega)
        rw [← e] at this
        exact this (by simpa using hz)
      · exact h
    | false =>
      simp only [cond_false]
      have : (trimL l).length = n := by
        rcases Nat.lt_or_ge (n - 1) (trimL l).length with h | h
        · omega
        · exfalso
          have := trim_out l (n - 1) h
          rw [this] at hz
          simp at hz
      rw [this]
theorem T1173_eq (l : List Nat) (hl : l.length ≤ 1000000) : T1173 (Wd l, ()) = some (Wd (trimL l), ()) := by
  show t1173 W1173_2 (Wd l) = _
  unfold t1173
  have h := W1173_eq l hl l.length (Nat.le_refl _) (trim_len l).1
  rw [Wd_len]
  rw [h]
  have e : (decide ((0 : Int) ≤ ((trimL l).length : Int)) && decide (((trimL l).length : Int) ≤ ((Wd l).length : Int))) = true := by
    rw [Wd_len]; have := (trim_len l).1; simp; omega
  show (bif (decide ((0 : Int) ≤ ((trimL l).length : Int)) && decide (((trimL l).length : Int) ≤ ((Wd l).length : Int))) then some (List.take (Int.toNat ((trimL l).length : Int)) (Wd l), ()) else none) = _
  rw [e, cond_true, Int.toNat_natCast, Wd_take]
  have := (trim_len l).2
  rw [← this]
theorem W171_eq (a : List Nat) (ha : ∀ x ∈ a, x < 2 ^ 64) (hlen : a.length ≤ 1000000) (w s : Nat) (hs : s < 64) (hw : w ≤ a.length) (i : Nat) (hi : i ≤ (a.drop w).length) :
    W171_7 ((((a.drop w).length : Int), (Wd a, ((w : Int), ((s : Int), ((i : Int), ((), ())))))), (Wd ((shrL s (a.drop w)).take i ++ List.replicate ((shrL s (a.drop w)).length - i) 0), ())) = some (.inl (((), ()), (Wd (shrL s (a.drop w)), ()))) := by
  have key := lfix_ind (m171_7 S173.pre S173.F) (fun x => (a.drop w).length - x.1.2.2.2.2.1.toNat)
    (fun x => ∃ i : Nat, i ≤ (a.drop w).length ∧ x = ((((a.drop w).length : Int), (Wd a, ((w : Int), ((s : Int), ((i : Int), ((), ())))))), (Wd ((shrL s (a.drop w)).take i ++ List.replicate ((shrL s (a.drop w)).length - i) 0), ())))
    (fun _ => .inl (((), ()), (Wd (shrL s (a.drop w)), ()))) ?_ _ ⟨i, hi, rfl⟩
  · exact key
  intro L x hx hL
  obtain ⟨i, hi, rfl⟩ := hx
  unfold h171_7
  have hdl : (a.drop w).length = a.length - w := by simp
  have hol := shrL_len s (a.drop w)
  rcases Nat.lt_or_ge i (a.drop w).length with hlt | hge
  · have e1 : decide ((i : Int) < ((a.drop w).length : Int)) = true := by simp; omega
    have e2 : IntKind.wrap .i64 ((w : Int) + (i : Int)) = ((w + i : Nat) : Int) := by rw [wrapI (by omega)]; omega
    have e3 : (decide ((0 : Int) ≤ ((w + i : Nat) : Int)) && decide (((w + i : Nat) : Int) < ((Wd a).length : Int))) = true := by
      rw [Wd_len]; simp only [Bool.and_eq_true, decide_eq_true_eq]; omega
    have e4 : decide ((0 : Int) ≤ (s : Int)) = true := by simp
    have houtl : ((shrL s (a.drop w)).take i ++ List.replicate ((shrL s (a.drop w)).length - i) 0).length = (a.drop w).length := by simp; omega
    generalize hout : (shrL s (a.drop w)).take i ++ List.replicate ((shrL s (a.drop w)).length - i) 0 = out at houtl ⊢
    have e5 : (decide ((0 : Int) ≤ (i : Int)) && decide ((i : Int) < ((Wd out).length : Int))) = true := by
      rw [Wd_len]; simp only [Bool.and_eq_true, decide_eq_true_eq]; omega
    have e6 : IntKind.wrap .i64 (((w + i : Nat) : Int) + 1) = ((w + i + 1 : Nat) : Int) := by rw [wrapI (by omega)]; omega
    have e7 : IntKind.wrap .i64 ((i : Int) + 1) = ((i + 1 : Nat) : Int) := by rw [wrapI (by omega)]; omega
    have e8 : IntKind.wrap .i64 (64 - (s : Int)) = ((64 - s : Nat) : Int) := wsub 64 s (by omega) (by omega)
    have hx := getD_lt (by decide) ha (w + i)
    have hget := shrL_get s (a.drop w) i hlt
    rw [drop_getD, drop_getD, ← Nat.add_assoc] at hget
    have hnext := fun v (hv : (shrL s (a.drop w))[i]? = some v) => set_next (by omega) hv
    rw [hout] at hnext
    have e9 : ∀ v : Nat, (decide ((0 : Int) ≤ (i : Int)) && decide ((i : Int) < ((Wd (out.set i v)).length : Int))) = true := fun v => by
      rw [Wd_len, List.length_set]; simp only [Bool.and_eq_true, decide_eq_true_eq]; omega
    simp only [e1, e2, e3, e4, e5, e6, e7, e8, cond_true, Int.toNat_natCast, Wd_getD, shrN _ s (by omega), Wd_set, e9]
    rcases Nat.lt_or_ge (w + i + 1) a.length with h1 | h1
    · have f1 : decide (((w + i + 1 : Nat) : Int) < ((Wd a).length : Int)) = true := by rw [Wd_len]; exact decide_eq_true (by omega)
      have f2 : decide ((0 : Int) ≤ ((w + i + 1 : Nat) : Int)) = true := decide_eq_true (by omega)
      have f3 : decide ((0 : Int) ≤ ((64 - s : Nat) : Int)) = true := decide_eq_true (by omega)
      simp only [f1, f2, f3, Bool.and_self, cond_true]
      have hw2 := shr_word (s := s) (y := a.getD (w + i + 1) 0) (by omega) hx
      have g1 : a.getD (w + i + 1) 0 * 2 ^ (64 - s) % 2 ^ 64 = (a.getD (w + i + 1) 0 % 2 ^ s) * 2 ^ (64 - s) := by
        rw [pow_parts (s := s) (by omega), Nat.mul_mod_mul_right]
      rw [getD_set (by omega), shlN _ _ (by omega), g1, orN hw2.1 hw2.2, Wd_set, List.set_set, hnext _ hget]
      exact hL _ ⟨i + 1, by omega, rfl⟩ (by simp only [Int.toNat_natCast]; omega)
    · have f1 : decide (((w + i + 1 : Nat) : Int) < ((Wd a).length : Int)) = false := by rw [Wd_len]; exact decide_eq_false (by omega)
      have hz : a.getD (w + i + 1) 0 = 0 := by rw [List.getD_eq_getElem?_getD, List.getElem?_eq_none h1]; rfl
      rw [hz, Nat.zero_mod, Nat.zero_mul, Nat.add_zero] at hget
      simp only [f1, cond_false]
      rw [hnext _ hget]
      exact hL _ ⟨i + 1, by omega, rfl⟩ (by simp only [Int.toNat_natCast]; omega)
  · have hie : i = (a.drop w).length := by omega
    subst hie
    have e1 : decide (((a.drop w).length : Int) < ((a.drop w).length : Int)) = false := by simp
    simp only [e1, cond_false]
    have : (shrL s (a.drop w)).take (a.drop w).length ++ List.replicate ((shrL s (a.drop w)).length - (a.drop w).length) 0 = shrL s (a.drop w) := by
      rw [← hol, List.take_length, Nat.sub_self, List.replicate_zero, List.append_nil]
    rw [this]
theorem T171_eq (l : List Nat) (hl : Ws l) (n : Nat) (hn : n ≤ 100000000) : T171 (Wd l, (n : Int), ()) = some (Wd (dg (2 ^ 64) (nv (2 ^ 64) l / 2 ^ n)), ()) := by
  obtain ⟨h, hlen⟩ := hl
  show t171 S173.pre S173.F W171_7 (Wd l) n = _
  unfold t171
  have p0 := T173_eq l hlen
  have hB : 2 ≤ 2 ^ 64 := by decide
  have hle := (trim_len l).1
  have hm : ∀ x ∈ trimL l, x < 2 ^ 64 := fun x hx => h x (trim_mem hx)
  have hv := nv_trim hB h
  have hsplit : 2 ^ n = (2 ^ 64) ^ (n / 64) * 2 ^ (n % 64) := by rw [pow64, ← Nat.pow_add]; congr 1; omega
  simp only [pre173 p0, fun173 p0, cond_true, Wd_len, quoN n (by omega)]
  rcases Nat.lt_or_ge (n / 64) (trimL l).length with h1 | h1
  · have e1 : decide (((n / 64 : Nat) : Int) ≥ ((trimL l).length : Int)) = false := by simp; omega
    have e2 : IntKind.wrap .i64 (((trimL l).length : Int) - ((n / 64 : Nat) : Int)) = (((trimL l).drop (n / 64)).length : Int) := by
      rw [wsub _ _ (by omega) (by omega)]; simp
    have hdl : ((trimL l).drop (n / 64)).length ≤ 1000000 := by simp; omega
    have e3 : (decide ((0 : Int) ≤ (((trimL l).drop (n / 64)).length : Int)) && decide ((((trimL l).drop (n / 64)).length : Int) * 8 ≤ 140737488355328)) = true := by
      simp only [Bool.and_eq_true, decide_eq_true_eq]; omega
    have e4 : Int.tmod (n : Int) 64 = ((n % 64 : Nat) : Int) := rfl
    have hw := W171_eq (trimL l) hm (by omega) (n / 64) (n % 64) (Nat.mod_lt _ (by decide)) (by omega) 0 (Nat.zero_le _)
    rw [List.take_zero, List.nil_append, Nat.sub_zero, shrL_len] at hw
    rw [e1, e2, e3, cond_false, cond_true, Int.toNat_natCast, e4, Wd_rep, Wd_len, List.length_replicate]
    rw [show ((0 : Nat) : Int) = 0 from rfl] at hw
    rw [hw]
    have hos : ∀ x ∈ shrL (n % 64) ((trimL l).drop (n / 64)), x < 2 ^ 64 := fun x hx => by
      obtain ⟨i, hi⟩ := List.getElem?_of_mem hx
      have hil : i < ((trimL l).drop (n / 64)).length := by rw [← shrL_len (n % 64)]; exact (List.getElem?_eq_some_iff.1 hi).1
      rw [shrL_get _ _ i hil] at hi
      cases hi
      exact (shr_word (s := n % 64) (by omega) (getD_lt (by decide) (fun y hy => hm y (List.mem_of_mem_drop hy)) i)).2
    have p1 := T173_eq (shrL (n % 64) ((trimL l).drop (n / 64))) (by rw [shrL_len]; exact hdl)
    show (bif S173.pre (Wd (shrL (n % 64) ((trimL l).drop (n / 64))), ()) then some (S173.F (Wd (shrL (n % 64) ((trimL l).drop (n / 64))), ())) else none) = _
    rw [pre173 p1, fun173 p1, cond_true, trim_dg hB _ hos, nv_shrL (by omega)]
    have hd : nv (2 ^ 64) ((trimL l).drop (n / 64)) = nv (2 ^ 64) l / (2 ^ 64) ^ (n / 64) := by
      rw [← hv, nv_split _ (trimL l) (n / 64) (by omega)]
      have hlow := nv_lt hB ((trimL l).take (n / 64)) fun x hx => hm x (List.mem_of_mem_take hx)
      rw [List.length_take, Nat.min_eq_left (by omega)] at hlow
      rw [Nat.add_mul_div_left _ _ (Nat.pow_pos (by decide)), Nat.div_eq_of_lt hlow, Nat.zero_add]
    rw [hd, Nat.div_div_eq_div_mul, ← hsplit]
    rfl
  · have e1 : decide (((n / 64 : Nat) : Int) ≥ ((trimL l).length : Int)) = true := by simp; omega
    rw [e1, cond_true]
    have hz : nv (2 ^ 64) l / 2 ^ n = 0 := by
      rw [← hv]
      have := nv_lt hB (trimL l) hm
      apply Nat.div_eq_of_lt
      refine Nat.lt_of_lt_of_le this ?_
      rw [pow64]
      exact Nat.pow_le_pow_right (by decide) (by omega)
    rw [hz, dg_zero]; rfl
theorem W1171_eq (a : List Nat) (ha : ∀ x ∈ a, x < 2 ^ 64) (hlen : a.length ≤ 1000000) (w s : Nat) (hs : s < 64) (hw : w ≤ a.length) (i : Nat) (hi : i ≤ (a.drop w).length) :
    W1171_7 ((((a.drop w).length : Int), (Wd a, ((w : Int), ((s : Int), ((i : Int), ((), ())))))), (Wd ((shrL s (a.drop w)).take i ++ List.replicate ((shrL s (a.drop w)).length - i) 0), ())) = some (.inl (((), ()), (Wd (shrL s (a.drop w)), ()))) := by
  have key := lfix_ind (m1171_7 S1173.pre S1173.F S173.pre S173.F) (fun x => (a.drop w).length - x.1.2.2.2.2.1.toNat)
    (fun x => ∃ i : Nat, i ≤ (a.drop w).length ∧ x = ((((a.drop w).length : Int), (Wd a, ((w : Int), ((s : Int), ((i : Int), ((), ())))))), (Wd ((shrL s (a.drop w)).take i ++ List.replicate ((shrL s (a.drop w)).length - i) 0), ())))
    (fun _ => .inl (((), ()), (Wd (shrL s (a.drop w)), ()))) ?_ _ ⟨i, hi, rfl⟩
  · exact key
  intro L x hx hL
  obtain ⟨i, hi, rfl⟩ := hx
  unfold h1171_7
  have hdl : (a.drop w).length = a.length - w := by simp
  have hol := shrL_len s (a.drop w)
  rcases Nat.lt_or_ge i (a.drop w).length with hlt | hge
  · have e1 : decide ((i : Int) < ((a.drop w).length : Int)) = true := by simp; omega
    have e2 : IntKind.wrap .i64 ((w : Int) + (i : Int)) = ((w + i : Nat) : Int) := by rw [wrapI (by omega)]; omega
    have e3 : (decide ((0 : Int) ≤ ((w + i : Nat) : Int)) && decide (((w + i : Nat) : Int) < ((Wd a).length : Int))) = true := by
      rw [Wd_len]; simp only [Bool.and_eq_true, decide_eq_true_eq]; omega
    have e4 : decide ((0 : Int) ≤ (s : Int)) = true := by simp
    have houtl : ((shrL s (a.drop w)).take i ++ List.replicate ((shrL s (a.drop w)).length - i) 0).length = (a.drop w).length := by simp; omega
    generalize hout : (shrL s (a.drop w)).take i ++ List.replicate ((shrL s (a.drop w)).length - i) 0 = out at houtl ⊢
    have e5 : (decide ((0 : Int) ≤ (i : Int)) && decide ((i : Int) < ((Wd out).length : Int))) = true := by
      rw [Wd_len]; simp only [Bool.and_eq_true, decide_eq_true_eq]; omega
    have e6 : IntKind.wrap .i64 (((w + i : Nat) : Int) + 1) = ((w + i + 1 : Nat) : Int) := by rw [wrapI (by omega)]; omega
    have e7 : IntKind.wrap .i64 ((i : Int) + 1) = ((i + 1 : Nat) : Int) := by rw [wrapI (by omega)]; omega
    have e8 : IntKind.wrap .i64 (64 - (s : Int)) = ((64 - s : Nat) : Int) := wsub 64 s (by omega) (by omega)
    have hx := getD_lt (by decide) ha (w + i)
    have hget := shrL_get s (a.drop w) i hlt
    rw [drop_getD, drop_getD, ← Nat.add_assoc] at hget
    have hnext := fun v (hv : (shrL s (a.drop w))[i]? = some v) => set_next (by omega) hv
    rw [hout] at hnext
    have e9 : ∀ v : Nat, (decide ((0 : Int) ≤ (i : Int)) && decide ((i : Int) < ((Wd (out.set i v)).length : Int))) = true := fun v => by
      rw [Wd_len, List.length_set]; simp only [Bool.and_eq_true, decide_eq_true_eq]; omega
    simp only [e1, e2, e3, e4, e5, e6, e7, e8, cond_true, Int.toNat_natCast, Wd_getD, shrN _ s (by omega), Wd_set, e9]
    rcases Nat.lt_or_ge (w + i + 1) a.length with h1 | h1
    · have f1 : decide (((w + i + 1 : Nat) : Int) < ((Wd a).length : Int)) = true := by rw [Wd_len]; exact decide_eq_true (by omega)
      have f2 : decide ((0 : Int) ≤ ((w + i + 1 : Nat) : Int)) = true := decide_eq_true (by omega)
      have f3 : decide ((0 : Int) ≤ ((64 - s : Nat) : Int)) = true := decide_eq_true (by omega)
      simp only [f1, f2, f3, Bool.and_self, cond_true]
      have hw2 := shr_word (s := s) (y := a.getD (w + i + 1) 0) (by omega) hx
      have g1 : a.getD (w + i + 1) 0 * 2 ^ (64 - s) % 2 ^ 64 = (a.getD (w + i + 1) 0 % 2 ^ s) * 2 ^ (64 - s) := by
        rw [pow_parts (s := s) (by omega), Nat.mul_mod_mul_right]
      rw [getD_set (by omega), shlN _ _ (by omega), g1, orN hw2.1 hw2.2, Wd_set, List.set_set, hnext _ hget]
      exact hL _ ⟨i + 1, by omega, rfl⟩ (by simp only [Int.toNat_natCast]; omega)
    · have f1 : decide (((w + i + 1 : Nat) : Int) < ((Wd a).length : Int)) = false := by rw [Wd_len]; exact decide_eq_false (by omega)
      have hz : a.getD (w + i + 1) 0 = 0 := by rw [List.getD_eq_getElem?_getD, List.getElem?_eq_none h1]; rfl
      rw [hz, Nat.zero_mod, Nat.zero_mul, Nat.add_zero] at hget
      simp only [f1, cond_false]
      rw [hnext _ hget]
      exact hL _ ⟨i + 1, by omega, rfl⟩ (by simp only [Int.toNat_natCast]; omega)
  · have hie : i = (a.drop w).length := by omega
    subst hie
    have e1 : decide (((a.drop w).length : Int) < ((a.drop w).length : Int)) = false := by simp
    simp only [e1, cond_false]
    have : (shrL s (a.drop w)).take (a.drop w).length ++ List.replicate ((shrL s (a.drop w)).length - (a.drop w).length) 0 = shrL s (a.drop w) := by
      rw [← hol, List.take_length, Nat.sub_self, List.replicate_zero, List.append_nil]
    rw [this]
theorem T1171_eq (l : List Nat) (hl : Ws l) (n : Nat) (hn : n ≤ 100000000) : T1171 (Wd l, (n : Int), ()) = some (Wd (dg (2 ^ 64) (nv (2 ^ 64) l / 2 ^ n)), ()) := by
  obtain ⟨h, hlen⟩ := hl
  show t1171 S1173.pre S1173.F S173.pre S173.F W1171_7 (Wd l) n = _
  unfold t1171
  have p0 := T173_eq l hlen
  have hB : 2 ≤ 2 ^ 64 := by decide
  have hle := (trim_len l).1
  have hm : ∀ x ∈ trimL l, x < 2 ^ 64 := fun x hx => h x (trim_mem hx)
  have hv := nv_trim hB h
  have hsplit : 2 ^ n = (2 ^ 64) ^ (n / 64) * 2 ^ (n % 64) := by rw [pow64, ← Nat.pow_add]; congr 1; omega
  simp only [pre173 p0, fun173 p0, cond_true, Wd_len, quoN n (by omega)]
  rcases Nat.lt_or_ge (n / 64) (trimL l).length with h1 | h1
  · have e1 : decide (((n / 64 : Nat) : Int) ≥ ((trimL l).length : Int)) = false := by simp; omega
    have e2 : IntKind.wrap .i64 (((trimL l).length : Int) - ((n / 64 : Nat) : Int)) = (((trimL l).drop (n / 64)).length : Int) := by
      rw [wsub _ _ (by omega) (by omega)]; simp
    have hdl : ((trimL l).drop (n / 64)).length ≤ 1000000 := by simp; omega
    have e3 : (decide ((0 : Int) ≤ (((trimL l).drop (n / 64)).length : Int)) && decide ((((trimL l).drop (n / 64)).length : Int) * 8 ≤ 140737488355328)) = true := by
      simp only [Bool.and_eq_true, decide_eq_true_eq]; omega
    have e4 : Int.tmod (n : Int) 64 = ((n % 64 : Nat) : Int) := rfl
    have hw := W1171_eq (trimL l) hm (by omega) (n / 64) (n % 64) (Nat.mod_lt _ (by decide)) (by omega) 0 (Nat.zero_le _)
    rw [List.take_zero, List.nil_append, Nat.sub_zero, shrL_len] at hw
    rw [e1, e2, e3, cond_false, cond_true, Int.toNat_natCast, e4, Wd_rep, Wd_len, List.length_replicate]
    rw [show ((0 : Nat) : Int) = 0 from rfl] at hw
    rw [hw]
    have hos : ∀ x ∈ shrL (n % 64) ((trimL l).drop (n / 64)), x < 2 ^ 64 := fun x hx => by
      obtain ⟨i, hi⟩ := List.getElem?_of_mem hx
      have hil : i < ((trimL l).drop (n / 64)).length := by rw [← shrL_len (n % 64)]; exact (List.getElem?_eq_some_iff.1 hi).1
      rw [shrL_get _ _ i hil] at hi
      cases hi
      exact (shr_word (s := n % 64) (by omega) (getD_lt (by decide) (fun y hy => hm y (List.mem_of_mem_drop hy)) i)).2
    have p1 := T1173_eq (shrL (n % 64) ((trimL l).drop (n / 64))) (by rw [shrL_len]; exact hdl)
    show (bif S1173.pre (Wd (shrL (n % 64) ((trimL l).drop (n / 64))), ()) then some (S1173.F (Wd (shrL (n % 64) ((trimL l).drop (n / 64))), ())) else none) = _
    rw [pre1173 p1, fun1173 p1, cond_true, trim_dg hB _ hos, nv_shrL (by omega)]
    have hd : nv (2 ^ 64) ((trimL l).drop (n / 64)) = nv (2 ^ 64) l / (2 ^ 64) ^ (n / 64) := by
      rw [← hv, nv_split _ (trimL l) (n / 64) (by omega)]
      have hlow := nv_lt hB ((trimL l).take (n / 64)) fun x hx => hm x (List.mem_of_mem_take hx)
      rw [List.length_take, Nat.min_eq_left (by omega)] at hlow
      rw [Nat.add_mul_div_left _ _ (Nat.pow_pos (by decide)), Nat.div_eq_of_lt hlow, Nat.zero_add]
    rw [hd, Nat.div_div_eq_div_mul, ← hsplit]
    rfl
  · have e1 : decide (((n / 64 : Nat) : Int) ≥ ((trimL l).length : Int)) = true := by simp; omega
    rw [e1, cond_true]
    have hz : nv (2 ^ 64) l / 2 ^ n = 0 := by
      rw [← hv]
      have := nv_lt hB (trimL l) hm
      apply Nat.div_eq_of_lt
      refine Nat.lt_of_lt_of_le this ?_
      rw [pow64]
      exact Nat.pow_le_pow_right (by decide) (by omega)
    rw [hz, dg_zero]; rfl
end VL
namespace VL
open Go Vx
theorem wadd (a b : Nat) (h : a + b < 2 ^ 62) : IntKind.wrap .i64 ((a : Int) + (b : Int)) = ((a + b : Nat) : Int) := by rw [wrapI (by omega)]; omega
theorem wadd1 (a : Nat) (h : a < 2 ^ 62) : IntKind.wrap .i64 ((a : Int) + 1) = ((a + 1 : Nat) : Int) := by rw [wrapI (by omega)]; omega
theorem wadd64 (a : Nat) (h : a < 2 ^ 56) : IntKind.wrap .i64 (64 * (a : Int)) = ((64 * a : Nat) : Int) := by rw [wrapI (by omega)]; omega
theorem wmul64 (a : Nat) (h : a < 2 ^ 56) : IntKind.wrap .i64 ((a : Int) * 64) = ((64 * a : Nat) : Int) := by rw [wrapI (by omega)]; omega
theorem wsubn (m n : Nat) (h : n ≤ m ∧ m < 2 ^ 62) : IntKind.wrap .i64 ((m : Int) - (n : Int)) = ((m - n : Nat) : Int) := by rw [wrapI (by omega)]; omega
theorem wsub1 (m : Nat) (h : 1 ≤ m ∧ m < 2 ^ 62) : IntKind.wrap .i64 ((m : Int) - 1) = ((m - 1 : Nat) : Int) := by rw [wrapI (by omega)]; omega
theorem ilt_t (a b : Nat) (h : a < b) : decide ((a : Int) < (b : Int)) = true := decide_eq_true (by omega)
theorem ilt_f (a b : Nat) (h : b ≤ a) : decide ((a : Int) < (b : Int)) = false := decide_eq_false (by omega)
theorem ile_t (a b : Nat) (h : a ≤ b) : decide ((a : Int) ≤ (b : Int)) = true := decide_eq_true (by omega)
theorem ile_f (a b : Nat) (h : b < a) : decide ((a : Int) ≤ (b : Int)) = false := decide_eq_false (by omega)
theorem igt_t (a b : Nat) (h : b < a) : decide ((a : Int) > (b : Int)) = true := decide_eq_true (by omega)
theorem igt_f (a b : Nat) (h : a ≤ b) : decide ((a : Int) > (b : Int)) = false := decide_eq_false (by omega)
theorem ige_t (a b : Nat) (h : b ≤ a) : decide ((a : Int) ≥ (b : Int)) = true := decide_eq_true (by omega)
theorem ige_f (a b : Nat) (h : a < b) : decide ((a : Int) ≥ (b : Int)) = false := decide_eq_false (by omega)
theorem ipos_t (a : Nat) (h : 0 < a) : decide ((0 : Int) < (a : Int)) = true := decide_eq_true (by omega)
theorem ipos_f (a : Nat) (h : a = 0) : decide ((0 : Int) < (a : Int)) = false := decide_eq_false (by omega)
theorem igt0_t (a : Nat) (h : 0 < a) : decide ((a : Int) > 0) = true := decide_eq_true (by omega)
theorem igt0_f (a : Nat) (h : a = 0) : decide ((a : Int) > 0) = false := decide_eq_false (by omega)
theorem ineg_f (a : Nat) : decide ((a : Int) < 0) = false := decide_eq_false (by omega)
theorem beq0_t (a : Nat) (h : a = 0) : ((a : Int) == 0) = true := by rw [nbeq0]; simp [h]
theorem beq0_f (a : Nat) (h : a ≠ 0) : ((a : Int) == 0) = false := by rw [nbeq0]; simp [h]
theorem bne0_t (a : Nat) (h : a ≠ 0) : ((a : Int) != 0) = true := by rw [nbne0]; simp [h]
theorem bne0_f (a : Nat) (h : a = 0) : ((a : Int) != 0) = false := by rw [nbne0]; simp [h]
/-- so many digits of a number -/
def pd (B : Nat) : Nat → Nat → List Nat
  | 0, _ => []
  | k + 1, v => v % B :: pd B k (v / B)
theorem pd_len (B : Nat) : ∀ k v, (pd B k v).length = k
  | 0, _ => rfl
  | k + 1, v => by simp [pd, pd_len B k]
theorem pd_lt {B : Nat} (hB : 0 < B) : ∀ k v, ∀ x ∈ pd B k v, x < B
  | 0, _, x, hx => by simp [pd] at hx
  | k + 1, v, x, hx => by
    simp only [pd, List.mem_cons] at hx
    rcases hx with rfl | hx
    · exact Nat.mod_lt _ hB
    · exact pd_lt hB k _ x hx
theorem pd_of {B : Nat} (hB : 0 < B) : ∀ (l : List Nat), (∀ x ∈ l, x < B) → l = pd B l.length (nv B l)
  | [], _ => rfl
  | x :: r, h => by
    have hx := h x (by simp)
    simp only [List.length_cons, pd, nv]
    rw [Nat.add_mul_mod_self_left, Nat.mod_eq_of_lt hx, Nat.add_mul_div_left _ _ hB, Nat.div_eq_of_lt hx, Nat.zero_add, ← pd_of hB r fun y hy => h y (by simp [hy])]
theorem pd_at {B : Nat} (hB : 0 < B) {l : List Nat} {k v : Nat} (h : ∀ x ∈ l, x < B) (hl : l.length = k) (hv : nv B l = v) : l = pd B k v := by
  have := pd_of hB l h
  rw [hl, hv] at this
  exact this
theorem pd_nv {B : Nat} (hB : 0 < B) : ∀ k v, v < B ^ k → nv B (pd B k v) = v
  | 0, v, h => by simp at h; subst h; rfl
  | k + 1, v, h => by
    simp only [pd, nv]
    rw [pd_nv hB k (v / B) (by rw [Nat.div_lt_iff_lt_mul hB, ← Nat.pow_succ]; exact h)]
    exact Nat.mod_add_div v B
theorem pd_get (B : Nat) : ∀ k v i, i < k → (pd B k v).getD i 0 = v / B ^ i % B
  | 0, _, _, h => by omega
  | k + 1, v, 0, _ => by simp [pd]
  | k + 1, v, i + 1, h => by
    simp only [pd, List.getD_cons_succ]
    rw [pd_get B k (v / B) i (by omega), Nat.div_div_eq_div_mul, ← Nat.pow_succ']
theorem pd_zero (B : Nat) : ∀ k, pd B k 0 = List.replicate k 0
  | 0 => rfl
  | k + 1 => by simp [pd, pd_zero B k, List.replicate_succ]
theorem nv_set (B : Nat) : ∀ (l : List Nat) (i x : Nat), i < l.length → nv B (l.set i x) + B ^ i * l.getD i 0 = nv B l + B ^ i * x
  | [], _, _, h => by simp at h
  | y :: r, 0, x, _ => by simp [nv]; omega
  | y :: r, i + 1, x, h => by
    have := nv_set B r i x (by simpa using h)
    simp only [List.set_cons_succ, nv, List.getD_cons_succ, Nat.pow_succ']
    rw [Nat.mul_assoc, Nat.mul_assoc, Nat.add_assoc, Nat.add_assoc, ← Nat.mul_add, ← Nat.mul_add, this]
theorem set_lt {B : Nat} {l : List Nat} (h : ∀ x ∈ l, x < B) {i v : Nat} (hv : v < B) : ∀ x ∈ l.set i v, x < B := fun x hx => by
  rcases List.mem_or_eq_of_mem_set hx with h1 | h1
  · exact h x h1
  · rw [h1]; exact hv
theorem dg_trim {B : Nat} (hB : 2 ≤ B) (n : Nat) : trimL (dg B n) = dg B n := by
  rw [trim_dg hB _ (dg_lt hB n), nv_dg hB]
theorem nv_take_succ (B : Nat) (l : List Nat) (i : Nat) (h : i < l.length) : nv B (l.take (i + 1)) = nv B (l.take i) + B ^ i * l.getD i 0 := by
  have hs := nv_split B (l.take (i + 1)) i (by simp; omega)
  rw [hs, List.take_take, Nat.min_eq_left (by omega)]
  congr 2
  rw [List.drop_take, Nat.add_sub_cancel_left, List.getD_eq_getElem?_getD]
  rw [List.drop_eq_getElem_cons h, List.getElem?_eq_getElem h]
  show l[i] + B * 0 = l[i]
  rw [Nat.mul_zero, Nat.add_zero]
theorem two_split {x : Nat} (h : 0 < x) : ∃ t k, x = 2 ^ t * (2 * k + 1) := by
  induction x using Nat.strongRecOn with
  | ind x ih =>
    rcases Nat.mod_two_eq_zero_or_one x with h0 | h1
    · obtain ⟨t, k, e⟩ := ih (x / 2) (by omega) (by omega)
      refine ⟨t + 1, k, ?_⟩
      rw [Nat.pow_succ, Nat.mul_comm (2 ^ t) 2, Nat.mul_assoc, ← e]
      omega
    · exact ⟨0, x / 2, by simp; omega⟩
theorem odd_pow {t k n : Nat} : (2 ^ t * (2 * k + 1)) % 2 ^ n = 0 ↔ n ≤ t := by
  constructor
  · intro h
    rcases Nat.lt_or_ge t n with hlt | hge
    · exfalso
      have e : n = t + (n - t - 1) + 1 := by omega
      rw [e, Nat.add_assoc, Nat.pow_add, Nat.mul_mod_mul_left, Nat.pow_succ] at h
      have hp := Nat.two_pow_pos t
      have h2 : (2 * k + 1) % (2 ^ (n - t - 1) * 2) = 0 := by
        rcases Nat.mul_eq_zero.1 h with h | h
        · omega
        · exact h
      have : (2 * k + 1) % 2 = 0 := by
        have := Nat.mod_mod_of_dvd (2 * k + 1) (show 2 ∣ 2 ^ (n - t - 1) * 2 from ⟨_, Nat.mul_comm _ _⟩)
        rw [h2] at this
        omega
      omega
    · exact hge
  · intro h
    have e : t = n + (t - n) := by omega
    rw [e, Nat.pow_add, Nat.mul_assoc]
    exact Nat.mul_mod_right _ _
theorem and_neg {t k : Nat} (h : 2 ^ t * (2 * k + 1) < 2 ^ 64) : 2 ^ t * (2 * k + 1) &&& (2 ^ 64 - 2 ^ t * (2 * k + 1)) = 2 ^ t := by
  have hp := Nat.two_pow_pos t
  have ht : t < 64 := by
    have : 2 ^ t * 1 ≤ 2 ^ t * (2 * k + 1) := Nat.mul_le_mul_left _ (by omega)
    exact (Nat.pow_lt_pow_iff_right (a := 2) (by decide)).1 (by omega)
  have hz : 2 ^ t * (2 * k) + (2 ^ t - 1) + 1 = 2 ^ t * (2 * k + 1) := by rw [Nat.mul_add, Nat.mul_one]; omega
  have hb : ∀ i, (2 ^ 64 - 2 ^ t * (2 * k + 1)).testBit i = (decide (i < 64) && !(2 ^ t * (2 * k) + (2 ^ t - 1)).testBit i) := fun i => by
    rw [← hz, Nat.testBit_two_pow_sub_succ (by omega)]
  apply Nat.eq_of_testBit_eq
  intro i
  rw [Nat.testBit_and, hb, Nat.testBit_two_pow]
  have h1 : (2 ^ t * (2 * k + 1)).testBit i = (decide (t ≤ i) && (2 * k + 1).testBit (i - t)) := by
    have := Nat.testBit_two_pow_mul_add (2 * k + 1) hp i
    rw [Nat.add_zero] at this
    rw [this]
    by_cases hi : i < t
    · simp [hi]; omega
    · simp [hi]; omega
  rw [h1, Nat.testBit_two_pow_mul_add (2 * k) (show 2 ^ t - 1 < 2 ^ t by omega) i]
  rcases Nat.lt_trichotomy i t with hi | hi | hi
  · simp [show ¬ t ≤ i by omega, show ¬ t = i by omega]
  · subst hi
    simp [ht]
  · have e : i - t = (i - t - 1) + 1 := by omega
    simp only [show ¬ i < t by omega, if_false, show ¬ t = i by omega, decide_false]
    rw [e, Nat.testBit_succ, Nat.testBit_succ, show (2 * k + 1) / 2 = k by omega, show 2 * k / 2 = k by omega]
    cases k.testBit (i - t - 1) <;> simp
theorem andN {a b : Nat} (ha : a < 2 ^ 64) (hb : b < 2 ^ 64) : andI .u64 (a : Int) (b : Int) = ((a &&& b : Nat) : Int) := by
  have key : (BitVec.ofInt 64 (a : Int) &&& BitVec.ofInt 64 (b : Int)).toNat = a &&& b := by
    rw [BitVec.toNat_and, ofInt_u64 ha, ofInt_u64 hb]
  show IntKind.u64.wrap (((BitVec.ofInt 64 (a : Int) &&& BitVec.ofInt 64 (b : Int)).toNat : Nat) : Int) = _
  rw [key]
  have := Nat.and_le_left (n := a) (m := b)
  exact wrapU (by omega)
theorem orN2 {a b : Nat} (ha : a < 2 ^ 64) (hb : b < 2 ^ 64) : orI .u64 (a : Int) (b : Int) = ((a ||| b : Nat) : Int) := by
  have key : (BitVec.ofInt 64 (a : Int) ||| BitVec.ofInt 64 (b : Int)).toNat = a ||| b := by
    rw [BitVec.toNat_or, ofInt_u64 ha, ofInt_u64 hb]
  show IntKind.u64.wrap (((BitVec.ofInt 64 (a : Int) ||| BitVec.ofInt 64 (b : Int)).toNat : Nat) : Int) = _
  rw [key]
  have := Nat.or_lt_two_pow ha hb
  exact wrapU (by omega)
theorem deb : ∀ t : Nat, t < 64 → IntKind.wrap .i64 (k_deb.getD (2 ^ t * 285870213051353865 % 2 ^ 64 / 2 ^ 58) 0) = (t : Int) := by
  have h : ((List.range 64).all fun t => decide (IntKind.wrap .i64 (k_deb.getD (2 ^ t * 285870213051353865 % 2 ^ 64 / 2 ^ 58) (0 : Int)) = (t : Int))) = true := by decide +kernel
  intro t ht
  have := List.all_eq_true.1 h t (List.mem_range.2 ht)
  simpa using this
theorem T92_eq {t k : Nat} (h : 2 ^ t * (2 * k + 1) < 2 ^ 64) : T92 (((2 ^ t * (2 * k + 1) : Nat) : Int), ()) = some ((t : Int), ()) := by
  have hp := Nat.two_pow_pos t
  have h1 : 2 ^ t * 1 ≤ 2 ^ t * (2 * k + 1) := Nat.mul_le_mul_left _ (by omega)
  have ht : t < 64 := (Nat.pow_lt_pow_iff_right (a := 2) (by decide)).1 (by omega)
  have han := and_neg h
  show t92 ((2 ^ t * (2 * k + 1) : Nat) : Int) = _
  generalize hx : 2 ^ t * (2 * k + 1) = x at *
  unfold t92
  have e1 : IntKind.wrap .u64 ((0 : Int) - (x : Int)) = ((2 ^ 64 - x : Nat) : Int) := by
    have : ∀ y : Int, IntKind.wrap .u64 y = y % 18446744073709551616 := fun y => by
      simp [IntKind.wrap, IntKind.bits, IntKind.signed]
    rw [this]; omega
  have e2 : IntKind.wrap .u64 (((2 ^ t : Nat) : Int) * 285870213051353865) = ((2 ^ t * 285870213051353865 % 2 ^ 64 : Nat) : Int) := wrapN (2 ^ t * 285870213051353865)
  have e3 : shrI .u64 ((2 ^ t * 285870213051353865 % 2 ^ 64 : Nat) : Int) 58 = ((2 ^ t * 285870213051353865 % 2 ^ 64 / 2 ^ 58 : Nat) : Int) := shrN _ 58 (by decide)
  have e4 : 2 ^ t * 285870213051353865 % 2 ^ 64 / 2 ^ 58 < 64 := by omega
  have e5 : (decide ((0 : Int) ≤ ((2 ^ t * 285870213051353865 % 2 ^ 64 / 2 ^ 58 : Nat) : Int)) && decide (((2 ^ t * 285870213051353865 % 2 ^ 64 / 2 ^ 58 : Nat) : Int) < (64 : Nat))) = true := by
    rw [decide_eq_true (by omega), decide_eq_true (by omega)]; rfl
  rw [e1, andN h (by omega), han, e2, e3, e5, sealB_eq, cond_true, beq0_f x (by omega), cond_false, Int.toNat_natCast, deb t ht]
end VL
namespace VL
open Go Vx
/-- words as the program has them, of a number -/
def Dw (n : Nat) : List Int := Wd (dg (2 ^ 64) n)
theorem dg_ws (n : Nat) (h : (dg (2 ^ 64) n).length ≤ 1000000) : Ws (dg (2 ^ 64) n) := ⟨dg_lt (by decide) n, h⟩
theorem dg_len_le {B : Nat} (hB : 2 ≤ B) : ∀ (k n : Nat), n < B ^ k → (dg B n).length ≤ k
  | 0, n, h => by simp at h; subst h; rw [dg_zero]; simp
  | k + 1, n, h => by
    rcases Nat.eq_zero_or_pos n with rfl | hn
    · rw [dg_zero]; simp
    · rw [dg_pos hB hn]
      have := dg_len_le hB k (n / B) (by rw [Nat.div_lt_iff_lt_mul (by omega), ← Nat.pow_succ]; exact h)
      simp; omega
theorem dg_len_gt {B : Nat} (hB : 2 ≤ B) (n : Nat) : n < B ^ (dg B n).length := by
  have := nv_lt hB _ (dg_lt hB n)
  rwa [nv_dg hB] at this
theorem div_word {x i t k r n : Nat} (hx : x = 2 ^ t * (2 * k + 1)) (ht : t < 64) : ((2 ^ 64) ^ i * (x + 2 ^ 64 * r)) % 2 ^ n = 0 ↔ n ≤ 64 * i + t := by
  have e : (2 ^ 64) ^ i * (x + 2 ^ 64 * r) = 2 ^ (64 * i + t) * (2 * (k + 2 ^ (64 - t - 1) * r) + 1) := by
    have h1 : 2 ^ 64 = 2 ^ t * (2 ^ (64 - t - 1) * 2) := by rw [← Nat.pow_succ, ← Nat.pow_add]; congr 1; omega
    rw [pow64, hx, Nat.pow_add, Nat.mul_assoc]
    congr 1
    rw [h1, Nat.mul_assoc, ← Nat.mul_add]
    congr 1
    rw [Nat.mul_assoc, Nat.mul_left_comm]
    omega
  rw [e]
  exact odd_pow
theorem W184_eq (a : List Nat) (ha : ∀ x ∈ a, x < 2 ^ 64) (hlen : a.length ≤ 1000000) (n : Nat) (hn : n ≤ 1000000000) (i : Nat) (hi : i ≤ a.length) (hz : nv (2 ^ 64) (a.take i) = 0) :
    W184_2 (((a.length : Int), (Wd a, ((n : Int), ((i : Int), ())))), ()) = some (if nv (2 ^ 64) a = 0 then .inl ((), ()) else .inr ((decide (nv (2 ^ 64) a % 2 ^ n = 0), ()), ())) := by
  have key := lfix_ind (m184_2 S173.pre S173.F S92.pre S92.F) (fun x => a.length - x.1.2.2.2.1.toNat)
    (fun x => ∃ i : Nat, i ≤ a.length ∧ nv (2 ^ 64) (a.take i) = 0 ∧ x = (((a.length : Int), (Wd a, ((n : Int), ((i : Int), ())))), ()))
    (fun _ => if nv (2 ^ 64) a = 0 then .inl ((), ()) else .inr ((decide (nv (2 ^ 64) a % 2 ^ n = 0), ()), ())) ?_ _ ⟨i, hi, hz, rfl⟩
  · exact key
  intro L x hx hL
  obtain ⟨i, hi, hz, rfl⟩ := hx
  unfold h184_2
  rcases Nat.lt_or_ge i a.length with hlt | hge
  · simp (disch := omega) only [wadd, wadd1, wadd64, wsubn, wsub1, wmul64, ilt_t, ilt_f, ile_t, ile_f, igt_t, igt_f, ige_t, ige_f, ipos_t, ipos_f, igt0_t, igt0_f, nnn, beq0_t, beq0_f, bne0_t, bne0_f, Int.toNat_natCast, Int.toNat_zero, cond_true, cond_false, Bool.and_self, Bool.true_and, Bool.and_true, Bool.false_and, Bool.and_false, Bool.not_true, Bool.not_false, Bool.or_self, Bool.true_or, Bool.or_true, Bool.false_or, Bool.or_false, Wd_len, Wd_getD]
    have hxl := getD_lt (by decide) ha i
    rcases Nat.eq_zero_or_pos (a.getD i 0) with h0 | h0
    · simp (disch := omega) only [wadd, wadd1, wadd64, wsubn, wsub1, wmul64, ilt_t, ilt_f, ile_t, ile_f, igt_t, igt_f, ige_t, ige_f, ipos_t, ipos_f, igt0_t, igt0_f, nnn, beq0_t, beq0_f, bne0_t, bne0_f, Int.toNat_natCast, Int.toNat_zero, cond_true, cond_false, Bool.and_self, Bool.true_and, Bool.and_true, Bool.false_and, Bool.and_false, Bool.not_true, Bool.not_false, Bool.or_self, Bool.true_or, Bool.or_true, Bool.false_or, Bool.or_false]
      refine hL _ ⟨i + 1, by omega, ?_, rfl⟩ (by simp only [Int.toNat_natCast]; omega)
      rw [nv_take_succ _ _ _ hlt, hz, h0, Nat.mul_zero]
    · obtain ⟨t, k, e⟩ := two_split h0
      have ht : t < 64 := by
        have hp := Nat.two_pow_pos t
        have h1 : 2 ^ t * 1 ≤ 2 ^ t * (2 * k + 1) := Nat.mul_le_mul_left _ (by omega)
        exact (Nat.pow_lt_pow_iff_right (a := 2) (by decide)).1 (by omega)
      have p0 := T92_eq (t := t) (k := k) (by omega)
      rw [← e] at p0
      have hv : nv (2 ^ 64) a = (2 ^ 64) ^ i * (a.getD i 0 + 2 ^ 64 * nv (2 ^ 64) (a.drop (i + 1))) := by
        rw [nv_split _ a i hi, hz, Nat.zero_add, List.drop_eq_getElem_cons hlt]
        simp only [nv]
        rw [List.getD_eq_getElem?_getD, List.getElem?_eq_getElem hlt]
        rfl
      have hne : nv (2 ^ 64) a ≠ 0 := by
        rw [hv]
        have : 0 < (2 ^ 64) ^ i := Nat.pow_pos (by decide)
        exact Nat.ne_of_gt (Nat.mul_pos this (by omega))
      have hd := div_word (i := i) (r := nv (2 ^ 64) (a.drop (i + 1))) (n := n) e ht
      rw [← hv] at hd
      simp (disch := omega) only [wadd, wadd1, wadd64, wsubn, wsub1, wmul64, ilt_t, ilt_f, ile_t, ile_f, igt_t, igt_f, ige_t, ige_f, ipos_t, ipos_f, igt0_t, igt0_f, nnn, beq0_t, beq0_f, bne0_t, bne0_f, Int.toNat_natCast, Int.toNat_zero, cond_true, cond_false, Bool.and_self, Bool.true_and, Bool.and_true, Bool.false_and, Bool.and_false, Bool.not_true, Bool.not_false, Bool.or_self, Bool.true_or, Bool.or_true, Bool.false_or, Bool.or_false, pre92 p0, fun92 p0, if_neg hne]
      have : decide (((64 * i + t : Nat) : Int) ≥ (n : Int)) = decide (nv (2 ^ 64) a % 2 ^ n = 0) := by
        rw [Bool.eq_iff_iff, decide_eq_true_eq, decide_eq_true_eq, hd]; omega
      rw [this]
  · have e : i = a.length := by omega
    subst e
    rw [List.take_length] at hz
    simp (disch := omega) only [wadd, wadd1, wadd64, wsubn, wsub1, wmul64, ilt_t, ilt_f, ile_t, ile_f, igt_t, igt_f, ige_t, ige_f, ipos_t, ipos_f, igt0_t, igt0_f, nnn, beq0_t, beq0_f, bne0_t, bne0_f, Int.toNat_natCast, Int.toNat_zero, cond_true, cond_false, Bool.and_self, Bool.true_and, Bool.and_true, Bool.false_and, Bool.and_false, Bool.not_true, Bool.not_false, Bool.or_self, Bool.true_or, Bool.or_true, Bool.false_or, Bool.or_false, if_pos hz]
theorem T184_eq (l : List Nat) (hl : Ws l) (n : Nat) (hn : n ≤ 1000000000) : T184 (Wd l, (n : Int), ()) = some (decide (nv (2 ^ 64) l % 2 ^ n = 0), ()) := by
  obtain ⟨h, hlen⟩ := hl
  show t184 S173.pre S173.F S92.pre S92.F W184_2 (Wd l) n = _
  unfold t184
  have p0 := T173_eq l hlen
  have hm : ∀ x ∈ trimL l, x < 2 ^ 64 := fun x hx => h x (trim_mem hx)
  have hle := (trim_len l).1
  have hw := W184_eq (trimL l) hm (by omega) n hn 0 (Nat.zero_le _) rfl
  rw [nv_trim (by decide) h] at hw
  simp only [pre173 p0, fun173 p0, cond_true, Wd_len]
  rw [show ((0 : Nat) : Int) = 0 from rfl] at hw
  rw [hw]
  by_cases h0 : nv (2 ^ 64) l = 0
  · rw [if_pos h0, h0, Nat.zero_mod]; rfl
  · rw [if_neg h0]
/-- n over 2^s, with a bit for what is lost -/
def jamN (v n : Nat) : Nat := if v % 2 ^ n = 0 then v / 2 ^ n else v / 2 ^ n / 2 * 2 + 1
theorem or_one (w : Nat) : w ||| 1 = w / 2 * 2 + 1 := by
  apply Nat.eq_of_testBit_eq
  intro i
  rw [Nat.testBit_or]
  cases i with
  | zero => simp [Nat.testBit_zero]
  | succ i =>
    rw [Nat.testBit_succ, Nat.testBit_succ, Nat.testBit_succ, show (w / 2 * 2 + 1) / 2 = w / 2 by omega, show 1 / 2 = 0 by rfl]
    simp
theorem T175_eq (l : List Nat) (hl : Ws l) (n : Nat) (hn : n ≤ 100000000) : T175 (Wd l, (n : Int), ()) = some (Dw (jamN (nv (2 ^ 64) l) n), 0, ()) := by
  show t175 S1171.pre S1171.F S171.pre S171.F S184.pre S184.F (Wd l) n = _
  unfold t175
  have p0 := T1171_eq l hl n hn
  have p1 := T184_eq l hl n (by omega)
  simp only [ineg_f, cond_false, pre1171 p0, fun1171 p0, pre184 p1, fun184 p1, cond_true, Wd_len]
  unfold jamN
  by_cases h0 : nv (2 ^ 64) l % 2 ^ n = 0
  · rw [if_pos h0, decide_eq_true h0]; rfl
  · rw [if_neg h0, decide_eq_false h0]
    generalize nv (2 ^ 64) l / 2 ^ n = q
    rcases Nat.eq_zero_or_pos q with rfl | hq
    · have e : Dw (0 / 2 * 2 + 1) = [1] := by
        show Wd (dg (2 ^ 64) 1) = [1]
        rw [dg_pos (by decide) (by decide), dg_zero]; rfl
      rw [e, dg_zero]; rfl
    · have hB : 2 ≤ 2 ^ 64 := by decide
      have e : Dw (q / 2 * 2 + 1) = Wd ((q % 2 ^ 64 / 2 * 2 + 1) :: dg (2 ^ 64) (q / 2 ^ 64)) := by
        show Wd (dg (2 ^ 64) (q / 2 * 2 + 1)) = _
        rw [dg_pos hB (by omega)]
        have e1 : (q / 2 * 2 + 1) % 2 ^ 64 = q % 2 ^ 64 / 2 * 2 + 1 := by omega
        have e2 : (q / 2 * 2 + 1) / 2 ^ 64 = q / 2 ^ 64 := by omega
        rw [e1, e2]
      have e2 : orI .u64 ((q % 2 ^ 64 : Nat) : Int) 1 = ((q % 2 ^ 64 / 2 * 2 + 1 : Nat) : Int) := by
        have := orN2 (a := q % 2 ^ 64) (b := 1) (by omega) (by decide)
        rw [or_one] at this
        exact this
      rw [e, dg_pos hB hq]
      simp (disch := omega) only [wadd, wadd1, wadd64, wsubn, wsub1, wmul64, ilt_t, ilt_f, ile_t, ile_f, igt_t, igt_f, ige_t, ige_f, ipos_t, ipos_f, igt0_t, igt0_f, nnn, beq0_t, beq0_f, bne0_t, bne0_f, Int.toNat_natCast, Int.toNat_zero, cond_true, cond_false, Bool.and_self, Bool.true_and, Bool.and_true, Bool.false_and, Bool.and_false, Bool.not_true, Bool.not_false, Bool.or_self, Bool.true_or, Bool.or_true, Bool.false_or, Bool.or_false, List.length_cons, Wd_getD, List.getD_cons_zero, e2, Wd_set, List.set_cons_zero]
theorem T141_eq (l : List Nat) (hl : Ws l) (n : Nat) (hn : n ≤ 100000000) : T141 (Wd l, (n : Int), ()) = some (Dw (nv (2 ^ 64) l / 2 ^ n), 0, ()) := by
  show t141 S171.pre S171.F (Wd l) n = _
  unfold t141
  have p0 := T171_eq l hl n hn
  simp only [ineg_f, cond_false, pre171 p0, fun171 p0, cond_true]
  rfl
end VL
namespace VL
open Go Vx
theorem getD_set_ne {l : List Nat} {i j v : Nat} (h : i ≠ j) : (l.set i v).getD j 0 = l.getD j 0 := by
  rw [List.getD_eq_getElem?_getD, List.getD_eq_getElem?_getD, List.getElem?_set_ne h]
/-- one word's step to the left -/
theorem left_step {out : List Nat} {K V k s x : Nat} (hs : s < 64) (ho : out = pd (2 ^ 64) K V) (hk : k + 1 < K) (hV : V < 2 ^ (64 * k + s)) (hx : x < 2 ^ 64) :
    (out.getD k 0 < 2 ^ s) ∧ (out.getD k 0 + x % 2 ^ (64 - s) * 2 ^ s < 2 ^ 64) ∧ ((out.set k (out.getD k 0 + x % 2 ^ (64 - s) * 2 ^ s)).set (k + 1) (x / 2 ^ (64 - s)) = pd (2 ^ 64) K (V + 2 ^ (64 * k + s) * x)) := by
  have hB : 0 < 2 ^ 64 := by decide
  have hps := Nat.two_pow_pos s
  have hpk := Nat.two_pow_pos (64 * k)
  have hlen : out.length = K := by rw [ho, pd_len]
  have hc : out.getD k 0 = V / (2 ^ 64) ^ k % 2 ^ 64 := by rw [ho, pd_get _ _ _ _ (by omega)]
  have hc2 : V / (2 ^ 64) ^ k < 2 ^ s := by
    rw [pow64, Nat.div_lt_iff_lt_mul hpk, Nat.mul_comm, ← Nat.pow_add]; exact hV
  have hc1 : out.getD (k + 1) 0 = 0 := by
    rw [ho, pd_get _ _ _ _ hk, pow64]
    have : V < 2 ^ (64 * (k + 1)) := Nat.lt_of_lt_of_le hV (Nat.pow_le_pow_right (by decide) (by omega))
    rw [Nat.div_eq_of_lt this]
  have h64 : 2 ^ 64 = 2 ^ (64 - s) * 2 ^ s := by rw [← Nat.pow_add]; congr 1; omega
  have hs64 : 2 ^ s ≤ 2 ^ 64 := Nat.pow_le_pow_right (by decide) (by omega)
  have hce : V / (2 ^ 64) ^ k % 2 ^ 64 = V / (2 ^ 64) ^ k := Nat.mod_eq_of_lt (by omega)
  have hcl : out.getD k 0 < 2 ^ s := by rw [hc, hce]; exact hc2
  have hp1 := Nat.two_pow_pos (64 - s)
  have hm : x % 2 ^ (64 - s) + 1 ≤ 2 ^ (64 - s) := Nat.mod_lt _ hp1
  have hm2 := Nat.mul_le_mul_right (2 ^ s) hm
  rw [← h64, Nat.add_mul, Nat.one_mul] at hm2
  have hsum : out.getD k 0 + x % 2 ^ (64 - s) * 2 ^ s < 2 ^ 64 := by omega
  refine ⟨hcl, hsum, ?_⟩
  have hall : ∀ y ∈ out, y < 2 ^ 64 := by rw [ho]; exact pd_lt hB _ _
  have hxd : x / 2 ^ (64 - s) < 2 ^ 64 := Nat.lt_of_le_of_lt (Nat.div_le_self _ _) hx
  refine pd_at hB (set_lt (set_lt hall hsum) hxd) (by simp [hlen]) ?_
  have g1 := nv_set (2 ^ 64) out k (out.getD k 0 + x % 2 ^ (64 - s) * 2 ^ s) (by omega)
  have g2 := nv_set (2 ^ 64) (out.set k (out.getD k 0 + x % 2 ^ (64 - s) * 2 ^ s)) (k + 1) (x / 2 ^ (64 - s)) (by rw [List.length_set]; omega)
  rw [getD_set_ne (by omega), hc1, Nat.mul_zero, Nat.add_zero] at g2
  have hVK : V < (2 ^ 64) ^ K := by
    rw [pow64]; exact Nat.lt_of_lt_of_le hV (Nat.pow_le_pow_right (by decide) (by omega))
  have hnv : nv (2 ^ 64) out = V := by rw [ho, pd_nv hB _ _ hVK]
  rw [hnv, Nat.mul_add] at g1
  rw [g2]
  have hx2 : 2 ^ (64 * k + s) * x = (2 ^ 64) ^ k * (x % 2 ^ (64 - s) * 2 ^ s) + (2 ^ 64) ^ (k + 1) * (x / 2 ^ (64 - s)) := by
    have hdm := Nat.div_add_mod x (2 ^ (64 - s))
    generalize x / 2 ^ (64 - s) = q at *
    generalize x % 2 ^ (64 - s) = r at *
    rw [Nat.pow_add 2 (64 * k) s, ← pow64, show (2 ^ 64) ^ (k + 1) = (2 ^ 64) ^ k * 2 ^ 64 from Nat.pow_succ _ _, Nat.mul_assoc ((2 ^ 64) ^ k), Nat.mul_assoc ((2 ^ 64) ^ k), ← Nat.mul_add, ← hdm]
    congr 1
    rw [Nat.mul_add, Nat.mul_comm r, Nat.add_comm]
    congr 1
    rw [← Nat.mul_assoc, Nat.mul_comm (2 ^ s), ← h64]
  omega
theorem W186_eq (a : List Nat) (ha : ∀ x ∈ a, x < 2 ^ 64) (hlen : a.length ≤ 1000000) (w s : Nat) (hs : s < 64) (hw : w ≤ 10000000) (i : Nat) (hi : i ≤ a.length) :
    W186_7 (((a.length : Int), (Wd a, ((w : Int), ((s : Int), ((i : Int), ((), ())))))), (Wd (pd (2 ^ 64) (w + a.length + 1) (2 ^ (64 * w + s) * nv (2 ^ 64) (a.take i))), ())) = some (.inl (((), ()), (Wd (pd (2 ^ 64) (w + a.length + 1) (2 ^ (64 * w + s) * nv (2 ^ 64) a)), ()))) := by
  have key := lfix_ind (m186_7 S173.pre S173.F) (fun x => a.length - x.1.2.2.2.2.1.toNat)
    (fun x => ∃ i : Nat, i ≤ a.length ∧ x = (((a.length : Int), (Wd a, ((w : Int), ((s : Int), ((i : Int), ((), ())))))), (Wd (pd (2 ^ 64) (w + a.length + 1) (2 ^ (64 * w + s) * nv (2 ^ 64) (a.take i))), ())))
    (fun _ => .inl (((), ()), (Wd (pd (2 ^ 64) (w + a.length + 1) (2 ^ (64 * w + s) * nv (2 ^ 64) a)), ()))) ?_ _ ⟨i, hi, rfl⟩
  · exact key
  intro L x hx hL
  obtain ⟨i, hi, rfl⟩ := hx
  unfold h186_7
  rcases Nat.lt_or_ge i a.length with hlt | hge
  · have hxl := getD_lt (by decide) ha i
    have ht := nv_lt (B := 2 ^ 64) (by decide) (a.take i) fun x hx => ha x (List.mem_of_mem_take hx)
    rw [List.length_take, Nat.min_eq_left (by omega), pow64] at ht
    have hV : 2 ^ (64 * w + s) * nv (2 ^ 64) (a.take i) < 2 ^ (64 * (w + i) + s) := by
      have e : 64 * (w + i) + s = (64 * w + s) + 64 * i := by omega
      rw [e, Nat.pow_add _ (64 * w + s)]
      exact Nat.mul_lt_mul_of_pos_left ht (Nat.two_pow_pos _)
    have hnext := nv_take_succ (2 ^ 64) a i hlt
    have hgo := hL (((a.length : Int), (Wd a, ((w : Int), ((s : Int), (((i + 1 : Nat) : Int), ((), ())))))), (Wd (pd (2 ^ 64) (w + a.length + 1) (2 ^ (64 * w + s) * nv (2 ^ 64) (a.take (i + 1)))), ())) ⟨i + 1, by omega, rfl⟩ (by simp only [Int.toNat_natCast]; omega)
    rw [hnext, Nat.mul_add, ← Nat.mul_assoc, show 2 ^ (64 * w + s) * (2 ^ 64) ^ i = 2 ^ (64 * (w + i) + s) by rw [pow64, ← Nat.pow_add]; congr 1; omega] at hgo
    generalize hout : pd (2 ^ 64) (w + a.length + 1) (2 ^ (64 * w + s) * nv (2 ^ 64) (a.take i)) = out at *
    obtain ⟨q1, q2, q3⟩ := left_step (k := w + i) hs hout.symm (by omega) hV hxl
    have hol : out.length = w + a.length + 1 := by rw [← hout, pd_len]
    have g1 : a.getD i 0 * 2 ^ s % 2 ^ 64 = (a.getD i 0 % 2 ^ (64 - s)) * 2 ^ s := by
      have : 2 ^ 64 = 2 ^ (64 - s) * 2 ^ s := by rw [← Nat.pow_add]; congr 1; omega
      rw [this, Nat.mul_mod_mul_right]
    have e8 : IntKind.wrap .i64 (64 - (s : Int)) = ((64 - s : Nat) : Int) := wsub 64 s (by omega) (by omega)
    simp (disch := omega) only [wadd, wadd1, wadd64, wsubn, wsub1, wmul64, ilt_t, ilt_f, ile_t, ile_f, igt_t, igt_f, ige_t, ige_f, ipos_t, ipos_f, igt0_t, igt0_f, nnn, beq0_t, beq0_f, bne0_t, bne0_f, Int.toNat_natCast, Int.toNat_zero, cond_true, cond_false, Bool.and_self, Bool.true_and, Bool.and_true, Bool.false_and, Bool.and_false, Bool.not_true, Bool.not_false, Bool.or_self, Bool.true_or, Bool.or_true, Bool.false_or, Bool.or_false, Wd_len, Wd_getD, e8, shlN _ s (by omega), shrN _ (64 - s) (by omega), g1, orN q1 q2, Wd_set, List.length_set, q3]
    exact hgo
  · have e : i = a.length := by omega
    subst e
    rw [List.take_length]
    simp (disch := omega) only [wadd, wadd1, wadd64, wsubn, wsub1, wmul64, ilt_t, ilt_f, ile_t, ile_f, igt_t, igt_f, ige_t, ige_f, ipos_t, ipos_f, igt0_t, igt0_f, nnn, beq0_t, beq0_f, bne0_t, bne0_f, Int.toNat_natCast, Int.toNat_zero, cond_true, cond_false, Bool.and_self, Bool.true_and, Bool.and_true, Bool.false_and, Bool.and_false, Bool.not_true, Bool.not_false, Bool.or_self, Bool.true_or, Bool.or_true, Bool.false_or, Bool.or_false]
theorem T186_eq (l : List Nat) (hl : Ws l) (n : Nat) (hn : n / 64 + (trimL l).length + 1 ≤ 1000000) : T186 (Wd l, (n : Int), ()) = some (Dw (nv (2 ^ 64) l * 2 ^ n), ()) := by
  obtain ⟨h, hlen⟩ := hl
  show t186 S173.pre S173.F W186_7 (Wd l) n = _
  unfold t186
  have hB : 2 ≤ 2 ^ 64 := by decide
  have p0 := T173_eq l hlen
  have hm : ∀ x ∈ trimL l, x < 2 ^ 64 := fun x hx => h x (trim_mem hx)
  have hle := (trim_len l).1
  have hv := nv_trim hB h
  simp only [pre173 p0, fun173 p0, cond_true, Wd_len]
  rcases Nat.eq_zero_or_pos (trimL l).length with h0 | h0
  · rw [h0, trim_nil h h0, Nat.zero_mul]
    unfold Dw
    rw [dg_zero]; rfl
  · have e4 : Int.tmod (n : Int) 64 = ((n % 64 : Nat) : Int) := rfl
    have e3 : decide (((n / 64 + (trimL l).length + 1 : Nat) : Int) * 8 ≤ 140737488355328) = true := decide_eq_true (by omega)
    have hw := W186_eq (trimL l) hm (by omega) (n / 64) (n % 64) (Nat.mod_lt _ (by decide)) (by omega) 0 (Nat.zero_le _)
    rw [show nv (2 ^ 64) ((trimL l).take 0) = 0 by rfl, Nat.mul_zero, pd_zero, show 64 * (n / 64) + n % 64 = n by omega, show ((0 : Nat) : Int) = 0 from rfl] at hw
    simp (disch := omega) only [wadd, wadd1, wadd64, wsubn, wsub1, wmul64, ilt_t, ilt_f, ile_t, ile_f, igt_t, igt_f, ige_t, ige_f, ipos_t, ipos_f, igt0_t, igt0_f, nnn, beq0_t, beq0_f, bne0_t, bne0_f, Int.toNat_natCast, Int.toNat_zero, cond_true, cond_false, Bool.and_self, Bool.true_and, Bool.and_true, Bool.false_and, Bool.and_false, Bool.not_true, Bool.not_false, Bool.or_self, Bool.true_or, Bool.or_true, Bool.false_or, Bool.or_false, quoN n (by omega), e4, e3, Wd_rep, hw]
    have hV : 2 ^ n * nv (2 ^ 64) (trimL l) < (2 ^ 64) ^ (n / 64 + (trimL l).length + 1) := by
      have := nv_lt hB (trimL l) hm
      rw [pow64] at this ⊢
      have h1 : 2 ^ n * nv (2 ^ 64) (trimL l) < 2 ^ n * 2 ^ (64 * (trimL l).length) := Nat.mul_lt_mul_of_pos_left this (Nat.two_pow_pos _)
      rw [← Nat.pow_add] at h1
      exact Nat.lt_of_lt_of_le h1 (Nat.pow_le_pow_right (by decide) (by omega))
    have p1 := T173_eq (pd (2 ^ 64) (n / 64 + (trimL l).length + 1) (2 ^ n * nv (2 ^ 64) (trimL l))) (by rw [pd_len]; omega)
    rw [trim_dg hB _ (pd_lt (by decide) _ _), pd_nv (by decide) _ _ hV, hv, Nat.mul_comm (2 ^ n)] at p1
    rw [hv, Nat.mul_comm (2 ^ n)]
    generalize pd (2 ^ 64) (n / 64 + (trimL l).length + 1) (nv (2 ^ 64) l * 2 ^ n) = out at *
    show (bif S173.pre (Wd out, ()) then some (S173.F (Wd out, ())) else none) = _
    rw [pre173 p1, fun173 p1]
    rfl
theorem W185_eq (ls : List (List Nat)) (hls : ∀ l ∈ ls, l.length ≤ 1000000) (hn : ls.length ≤ 1000000) (i : Nat) (hi : i ≤ ls.length) (hz : ∀ l ∈ ls.take i, (trimL l).length ≤ 1024) :
    W185_2 (((ls.length : Int), (ls.map Wd, ((i : Int), ()))), ()) = some (if (∀ l ∈ ls, (trimL l).length ≤ 1024) then .inl ((), ()) else .inr ((true, ()), ())) := by
  have key := lfix_ind (m185_2 S173.pre S173.F) (fun x => ls.length - x.1.2.2.1.toNat)
    (fun x => ∃ i : Nat, i ≤ ls.length ∧ (∀ l ∈ ls.take i, (trimL l).length ≤ 1024) ∧ x = (((ls.length : Int), (ls.map Wd, ((i : Int), ()))), ()))
    (fun _ => if (∀ l ∈ ls, (trimL l).length ≤ 1024) then .inl ((), ()) else .inr ((true, ()), ())) ?_ _ ⟨i, hi, hz, rfl⟩
  · exact key
  intro L x hx hL
  obtain ⟨i, hi, hz, rfl⟩ := hx
  unfold h185_2
  rcases Nat.lt_or_ge i ls.length with hlt | hge
  · have eg : (ls.map Wd).getD i [] = Wd (ls[i]) := by
      rw [List.getD_eq_getElem?_getD, List.getElem?_map, List.getElem?_eq_getElem hlt]; rfl
    have hil : ls[i] ∈ ls := List.getElem_mem hlt
    have p0 := T173_eq ls[i] (hls _ hil)
    simp (disch := omega) only [wadd, wadd1, wadd64, wsubn, wsub1, wmul64, ilt_t, ilt_f, ile_t, ile_f, igt_t, igt_f, ige_t, ige_f, ipos_t, ipos_f, igt0_t, igt0_f, nnn, beq0_t, beq0_f, bne0_t, bne0_f, Int.toNat_natCast, Int.toNat_zero, cond_true, cond_false, Bool.and_self, Bool.true_and, Bool.and_true, Bool.false_and, Bool.and_false, Bool.not_true, Bool.not_false, Bool.or_self, Bool.true_or, Bool.or_true, Bool.false_or, Bool.or_false, List.length_map, eg, pre173 p0, fun173 p0, Wd_len]
    rcases Nat.lt_or_ge 1024 (trimL ls[i]).length with hg | hg
    · have e : decide (((trimL ls[i]).length : Int) > 1024) = true := decide_eq_true (by omega)
      have hnot : ¬ ∀ l ∈ ls, (trimL l).length ≤ 1024 := fun hh => by have := hh _ hil; omega
      rw [e, cond_true, if_neg hnot]
    · have e : decide (((trimL ls[i]).length : Int) > 1024) = false := decide_eq_false (by omega)
      rw [e, cond_false]
      refine hL _ ⟨i + 1, by omega, ?_, rfl⟩ (by simp only [Int.toNat_natCast]; omega)
      intro l hl
      rw [List.take_succ, List.getElem?_eq_getElem hlt] at hl
      rcases List.mem_append.1 hl with hl | hl
      · exact hz l hl
      · have : l = ls[i] := by simpa using hl
        rw [this]; exact hg
  · have e : i = ls.length := by omega
    subst e
    rw [List.take_length] at hz
    simp (disch := omega) only [wadd, wadd1, wadd64, wsubn, wsub1, wmul64, ilt_t, ilt_f, ile_t, ile_f, igt_t, igt_f, ige_t, ige_f, ipos_t, ipos_f, igt0_t, igt0_f, nnn, beq0_t, beq0_f, bne0_t, bne0_f, Int.toNat_natCast, Int.toNat_zero, cond_true, cond_false, Bool.and_self, Bool.true_and, Bool.and_true, Bool.false_and, Bool.and_false, Bool.not_true, Bool.not_false, Bool.or_self, Bool.true_or, Bool.or_true, Bool.false_or, Bool.or_false, if_pos hz]
theorem T185_eq (ls : List (List Nat)) (hls : ∀ l ∈ ls, l.length ≤ 1000000) (hn : ls.length ≤ 1000000) :
    T185 (ls.map Wd, ()) = some (!decide (∀ l ∈ ls, (trimL l).length ≤ 1024), ()) := by
  show t185 S173.pre S173.F W185_2 (ls.map Wd) = _
  unfold t185
  have hw := W185_eq ls hls hn 0 (Nat.zero_le _) (fun l hl => by simp at hl)
  rw [show ((0 : Nat) : Int) = 0 from rfl] at hw
  rw [List.length_map, hw]
  by_cases h : ∀ l ∈ ls, (trimL l).length ≤ 1024
  · rw [if_pos h, decide_eq_true h]; rfl
  · rw [if_neg h, decide_eq_false h]; rfl
theorem T185_one (l : List Nat) (hl : l.length ≤ 1000000) : T185 ((Wd l :: []), ()) = some (!decide ((trimL l).length ≤ 1024), ()) := by
  have := T185_eq [l] (by simp; exact hl) (by simp)
  rw [show [l].map Wd = Wd l :: [] from rfl] at this
  rw [this]
  simp
theorem T176_eq (l : List Nat) (hl : Ws l) (n : Nat) (hn : n ≤ 65536) (hv : nv (2 ^ 64) l * 2 ^ n < (2 ^ 64) ^ 1024) : T176 (Wd l, (n : Int), ()) = some (Dw (nv (2 ^ 64) l * 2 ^ n), 0, ()) := by
  show t176 S186.pre S186.F S185.pre S185.F (Wd l) n = _
  unfold t176
  have p0 := T185_one l hl.2
  have hB : 2 ≤ 2 ^ 64 := by decide
  have h1 := dg_len_le hB 1024 _ hv
  have h0 : (trimL l).length ≤ 1024 := by
    rw [trim_dg hB _ hl.1]
    apply dg_len_le hB
    exact Nat.lt_of_le_of_lt (Nat.le_mul_of_pos_right _ (Nat.two_pow_pos _)) hv
  have p1 := T186_eq l hl n (by omega)
  have p2 := T185_one (dg (2 ^ 64) (nv (2 ^ 64) l * 2 ^ n)) (by omega)
  rw [dg_trim hB] at p2
  rw [decide_eq_true h0] at p0
  rw [decide_eq_true h1] at p2
  have e2 : decide ((n : Int) > 65536) = false := decide_eq_false (by omega)
  simp only [ineg_f, e2, Bool.or_self, cond_false, pre185 p0, fun185 p0, cond_true, Bool.not_true, pre186 p1, fun186 p1]
  unfold Dw
  simp only [pre185 p2, fun185 p2, cond_true, Bool.not_true, cond_false]
end VL
namespace VL
open Go Vx
theorem nv_take_next (B : Nat) (l : List Nat) (i : Nat) : nv B (l.take (i + 1)) = nv B (l.take i) + B ^ i * l.getD i 0 := by
  rcases Nat.lt_or_ge i l.length with h | h
  · exact nv_take_succ B l i h
  · rw [List.take_of_length_le (by omega), List.take_of_length_le h, List.getD_eq_getElem?_getD, List.getElem?_eq_none h]
    simp
/-- a sum's first words, and what is left of it -/
def sumAt (a b : List Nat) (i : Nat) : Nat := nv (2 ^ 64) (a.take i) + nv (2 ^ 64) (b.take i)
def outAt (a b : List Nat) (i : Nat) : List Nat := pd (2 ^ 64) i (sumAt a b i % (2 ^ 64) ^ i) ++ (a ++ [0]).drop i
theorem nv_take_lt {l : List Nat} (h : ∀ x ∈ l, x < 2 ^ 64) (i : Nat) : nv (2 ^ 64) (l.take i) < (2 ^ 64) ^ i := by
  have := nv_lt (B := 2 ^ 64) (by decide) (l.take i) fun x hx => h x (List.mem_of_mem_take hx)
  refine Nat.lt_of_lt_of_le this (Nat.pow_le_pow_right (by decide) ?_)
  rw [List.length_take]
  exact Nat.min_le_left _ _
theorem carry_le {a b : List Nat} (ha : ∀ x ∈ a, x < 2 ^ 64) (hb : ∀ x ∈ b, x < 2 ^ 64) (i : Nat) : sumAt a b i / (2 ^ 64) ^ i ≤ 1 := by
  have h1 := nv_take_lt ha i
  have h2 := nv_take_lt hb i
  have hp : 0 < (2 ^ 64) ^ i := Nat.pow_pos (by decide)
  unfold sumAt
  have : (nv (2 ^ 64) (a.take i) + nv (2 ^ 64) (b.take i)) / (2 ^ 64) ^ i < 2 := by
    rw [Nat.div_lt_iff_lt_mul hp]; omega
  omega
theorem sum_next (a b : List Nat) (i : Nat) : sumAt a b (i + 1) = sumAt a b i % (2 ^ 64) ^ i + (2 ^ 64) ^ i * (a.getD i 0 + b.getD i 0 + sumAt a b i / (2 ^ 64) ^ i) := by
  have hdm := Nat.div_add_mod (sumAt a b i) ((2 ^ 64) ^ i)
  have h1 : sumAt a b (i + 1) = sumAt a b i + (2 ^ 64) ^ i * (a.getD i 0 + b.getD i 0) := by
    unfold sumAt
    rw [nv_take_next, nv_take_next, Nat.mul_add]
    omega
  rw [h1, Nat.mul_add ((2 ^ 64) ^ i) (a.getD i 0 + b.getD i 0)]
  omega
theorem sum_next_div (a b : List Nat) (i : Nat) : sumAt a b (i + 1) / (2 ^ 64) ^ (i + 1) = (a.getD i 0 + b.getD i 0 + sumAt a b i / (2 ^ 64) ^ i) / 2 ^ 64 := by
  have hp : 0 < (2 ^ 64) ^ i := Nat.pow_pos (by decide)
  rw [sum_next, Nat.pow_succ (2 ^ 64) i, ← Nat.div_div_eq_div_mul, Nat.add_mul_div_left _ _ hp, Nat.div_eq_of_lt (Nat.mod_lt _ hp), Nat.zero_add]
theorem sum_next_mod (a b : List Nat) (i : Nat) : sumAt a b (i + 1) % (2 ^ 64) ^ (i + 1) = sumAt a b i % (2 ^ 64) ^ i + (2 ^ 64) ^ i * ((a.getD i 0 + b.getD i 0 + sumAt a b i / (2 ^ 64) ^ i) % 2 ^ 64) := by
  have hp : 0 < (2 ^ 64) ^ i := Nat.pow_pos (by decide)
  rw [sum_next a b i, Nat.pow_succ (2 ^ 64) i, Nat.mod_mul, Nat.add_mul_mod_self_left, Nat.mod_mod, Nat.add_mul_div_left _ _ hp, Nat.div_eq_of_lt (Nat.mod_lt _ hp), Nat.zero_add]
theorem pd_snoc {k r v : Nat} (hr : r < (2 ^ 64) ^ k) (hv : v < 2 ^ 64) : pd (2 ^ 64) k r ++ [v] = pd (2 ^ 64) (k + 1) (r + (2 ^ 64) ^ k * v) := by
  refine pd_at (by decide) ?_ (by simp [pd_len]) ?_
  · intro x hx
    rcases List.mem_append.1 hx with hx | hx
    · exact pd_lt (by decide) _ _ x hx
    · have : x = v := by simpa using hx
      rw [this]; exact hv
  · rw [nv_append, pd_len, pd_nv (by decide) _ _ hr]
    simp [nv]
theorem out_set (a b : List Nat) (i : Nat) (hi : i < a.length) : (outAt a b i).set i ((a.getD i 0 + b.getD i 0 + sumAt a b i / (2 ^ 64) ^ i) % 2 ^ 64) = outAt a b (i + 1) := by
  have hp : 0 < (2 ^ 64) ^ i := Nat.pow_pos (by decide)
  unfold outAt
  rw [sum_next_mod, ← pd_snoc (Nat.mod_lt _ hp) (Nat.mod_lt _ (by decide)), List.set_append_right _ _ (by rw [pd_len]; exact Nat.le_refl _), pd_len, Nat.sub_self,
    List.drop_eq_getElem_cons (l := a ++ [0]) (i := i) (by simp; omega), List.set_cons_zero, List.append_assoc]
  rfl
theorem out_len (a b : List Nat) (i : Nat) (hi : i ≤ a.length) : (outAt a b i).length = a.length + 1 := by
  unfold outAt; rw [List.length_append, pd_len]; simp; omega
theorem W143_eq (a b : List Nat) (ha : ∀ x ∈ a, x < 2 ^ 64) (hb : ∀ x ∈ b, x < 2 ^ 64) (hlen : a.length ≤ 1000000) (i : Nat) (hi : i ≤ a.length) :
    W143_8 (((a.length : Int), (Wd b, ((i : Int), (Wd a, (((sumAt a b i / (2 ^ 64) ^ i : Nat) : Int), ((), ())))))), (Wd (outAt a b i), ())) = some (.inl ((Wd a, (((sumAt a b a.length / (2 ^ 64) ^ a.length : Nat) : Int), ((), ()))), (Wd (outAt a b a.length), ()))) := by
  have key := lfix_ind (m143_8 S155.pre S155.F S173.pre S173.F) (fun x => a.length - x.1.2.2.1.toNat)
    (fun x => ∃ i : Nat, i ≤ a.length ∧ x = (((a.length : Int), (Wd b, ((i : Int), (Wd a, (((sumAt a b i / (2 ^ 64) ^ i : Nat) : Int), ((), ())))))), (Wd (outAt a b i), ())))
    (fun _ => .inl ((Wd a, (((sumAt a b a.length / (2 ^ 64) ^ a.length : Nat) : Int), ((), ()))), (Wd (outAt a b a.length), ()))) ?_ _ ⟨i, hi, rfl⟩
  · exact key
  intro L x hx hL
  obtain ⟨i, hi, rfl⟩ := hx
  unfold h143_8
  rcases Nat.lt_or_ge i a.length with hlt | hge
  · have hc := carry_le ha hb i
    have hol := out_len a b i hi
    have hset := out_set a b i hlt
    have hgo := hL (((a.length : Int), (Wd b, (((i + 1 : Nat) : Int), (Wd a, (((sumAt a b (i + 1) / (2 ^ 64) ^ (i + 1) : Nat) : Int), ((), ())))))), (Wd (outAt a b (i + 1)), ())) ⟨i + 1, by omega, rfl⟩ (by simp only [Int.toNat_natCast]; omega)
    rw [sum_next_div, ← hset] at hgo
    have hF : ∀ x y c : Nat, S155.F ((x : Int), ((y : Int), ((c : Int), ()))) = (((((x + y + c) % 2 ^ 64 : Nat) : Int)), ((((x + y + c) / 2 ^ 64 : Nat) : Int)), ()) := fun x y c => rfl
    have hP : ∀ (x y : Int) (c : Nat), c ≤ 1 → S155.pre (x, (y, ((c : Int), ()))) = true := fun x y c h => by
      show (decide ((0 : Int) ≤ (c : Int)) && decide ((c : Int) ≤ 1)) = true
      rw [decide_eq_true (by omega), decide_eq_true (by omega)]; rfl
    generalize sumAt a b i / (2 ^ 64) ^ i = c at *
    generalize outAt a b i = out at *
    rcases Nat.lt_or_ge i b.length with hbl | hbl
    · simp (disch := omega) only [wadd, wadd1, wadd64, wsubn, wsub1, wmul64, ilt_t, ilt_f, ile_t, ile_f, igt_t, igt_f, ige_t, ige_f, ipos_t, ipos_f, igt0_t, igt0_f, nnn, beq0_t, beq0_f, bne0_t, bne0_f, Int.toNat_natCast, Int.toNat_zero, cond_true, cond_false, Bool.and_self, Bool.true_and, Bool.and_true, Bool.false_and, Bool.and_false, Bool.not_true, Bool.not_false, Bool.or_self, Bool.true_or, Bool.or_true, Bool.false_or, Bool.or_false, Wd_len, Wd_getD, hP _ _ c hc, hF, Wd_set]
      exact hgo
    · have hbz : b.getD i 0 = 0 := by rw [List.getD_eq_getElem?_getD, List.getElem?_eq_none hbl]; rfl
      have hF0 : S155.F (((a.getD i 0 : Nat) : Int), ((0 : Int), ((c : Int), ()))) = ((((a.getD i 0 + b.getD i 0 + c) % 2 ^ 64 : Nat) : Int), (((a.getD i 0 + b.getD i 0 + c) / 2 ^ 64 : Nat) : Int), ()) := by rw [hbz]; rfl
      simp (disch := omega) only [wadd, wadd1, wadd64, wsubn, wsub1, wmul64, ilt_t, ilt_f, ile_t, ile_f, igt_t, igt_f, ige_t, ige_f, ipos_t, ipos_f, igt0_t, igt0_f, nnn, beq0_t, beq0_f, bne0_t, bne0_f, Int.toNat_natCast, Int.toNat_zero, cond_true, cond_false, Bool.and_self, Bool.true_and, Bool.and_true, Bool.false_and, Bool.and_false, Bool.not_true, Bool.not_false, Bool.or_self, Bool.true_or, Bool.or_true, Bool.false_or, Bool.or_false, Wd_len, Wd_getD, hP _ _ c hc, hF0, Wd_set]
      exact hgo
  · have e : i = a.length := by omega
    subst e
    simp (disch := omega) only [wadd, wadd1, wadd64, wsubn, wsub1, wmul64, ilt_t, ilt_f, ile_t, ile_f, igt_t, igt_f, ige_t, ige_f, ipos_t, ipos_f, igt0_t, igt0_f, nnn, beq0_t, beq0_f, bne0_t, bne0_f, Int.toNat_natCast, Int.toNat_zero, cond_true, cond_false, Bool.and_self, Bool.true_and, Bool.and_true, Bool.false_and, Bool.and_false, Bool.not_true, Bool.not_false, Bool.or_self, Bool.true_or, Bool.or_true, Bool.false_or, Bool.or_false]
theorem sum_end (a b : List Nat) (ha : ∀ x ∈ a, x < 2 ^ 64) (hb : ∀ x ∈ b, x < 2 ^ 64) (hab : b.length ≤ a.length) :
    (outAt a b a.length).set a.length (sumAt a b a.length / (2 ^ 64) ^ a.length) = pd (2 ^ 64) (a.length + 1) (nv (2 ^ 64) a + nv (2 ^ 64) b) ∧ nv (2 ^ 64) a + nv (2 ^ 64) b < (2 ^ 64) ^ (a.length + 1) := by
  have hp : 0 < (2 ^ 64) ^ a.length := Nat.pow_pos (by decide)
  have hc := carry_le ha hb a.length
  have hs : sumAt a b a.length = nv (2 ^ 64) a + nv (2 ^ 64) b := by
    unfold sumAt; rw [List.take_length, List.take_of_length_le hab]
  have hdm := Nat.div_add_mod (sumAt a b a.length) ((2 ^ 64) ^ a.length)
  refine ⟨?_, ?_⟩
  · have hd : (a ++ [0]).drop a.length = [0] := by simp
    unfold outAt
    rw [hd, List.set_append_right _ _ (by rw [pd_len]; exact Nat.le_refl _), pd_len, Nat.sub_self, List.set_cons_zero, pd_snoc (Nat.mod_lt _ hp) (by omega), Nat.add_comm (sumAt a b a.length % (2 ^ 64) ^ a.length), hdm, hs]
  · rw [← hs]
    have h1 := nv_take_lt ha a.length
    have h2 := nv_take_lt hb a.length
    unfold sumAt
    rw [Nat.pow_succ (2 ^ 64) a.length]
    omega
theorem add_len {a : List Nat} : List.take (List.replicate (a.length + 1) (0 : Int)).length (Wd a) ++ List.drop a.length (List.replicate (a.length + 1) (0 : Int)) = Wd (outAt a ([] : List Nat) 0) := by
  rw [List.length_replicate, List.drop_replicate, Nat.add_sub_cancel_left, List.take_of_length_le (by rw [Wd_len]; omega)]
  unfold outAt
  simp [Wd, pd]
theorem out_zero (a b c : List Nat) : outAt a b 0 = outAt a c 0 := by unfold outAt; simp [pd]
theorem add_main (a b : List Nat) (ha : ∀ x ∈ a, x < 2 ^ 64) (hb : ∀ x ∈ b, x < 2 ^ 64) (hlen : a.length + 1 ≤ 1000000) (hab : b.length ≤ a.length) :
    (bif decide (0 ≤ IntKind.wrap .i64 ((a.length : Int) + 1)) && decide (IntKind.wrap .i64 ((a.length : Int) + 1) * 8 ≤ 140737488355328) then
      obind (W143_8 (((a.length : Int), (Wd b, ((0 : Int), (Wd a, ((0 : Int), ((), ())))))), (List.take (List.replicate (Int.toNat (IntKind.wrap .i64 ((a.length : Int) + 1))) (0 : Int)).length (Wd a) ++ List.drop a.length (List.replicate (Int.toNat (IntKind.wrap .i64 ((a.length : Int) + 1))) (0 : Int)), ()))) fun y4 =>
        obind2 y4 (fun y5 => bif decide (0 ≤ ((y5.1.1.length : Nat) : Int)) && decide (((y5.1.1.length : Nat) : Int) < ((y5.2.1.length : Nat) : Int)) then
          (bif S173.pre ((y5.2.1.set (Int.toNat ((y5.1.1.length : Nat) : Int)) y5.1.2.1), ()) then some (S173.F ((y5.2.1.set (Int.toNat ((y5.1.1.length : Nat) : Int)) y5.1.2.1), ())) else none) else none) fun _ => none
    else none : Option (DenS O143)) = some (Dw (nv (2 ^ 64) a + nv (2 ^ 64) b), ()) := by
  have hw := W143_eq a b ha hb (by omega) 0 (Nat.zero_le _)
  have h0 : sumAt a b 0 / (2 ^ 64) ^ 0 = 0 := by unfold sumAt; simp [nv]
  rw [h0, show ((0 : Nat) : Int) = 0 from rfl, out_zero a b [], ← add_len] at hw
  have e3 : decide (((a.length + 1 : Nat) : Int) * 8 ≤ 140737488355328) = true := decide_eq_true (by omega)
  rw [wadd1 _ (by omega), e3, nnn, Int.toNat_natCast, hw]
  obtain ⟨g1, g2⟩ := sum_end a b ha hb hab
  have hol := out_len a b a.length (Nat.le_refl _)
  have p1 := T173_eq (pd (2 ^ 64) (a.length + 1) (nv (2 ^ 64) a + nv (2 ^ 64) b)) (by rw [pd_len]; exact hlen)
  rw [trim_dg (by decide) _ (pd_lt (by decide) _ _), pd_nv (by decide) _ _ g2, ← g1, ← Wd_set] at p1
  generalize sumAt a b a.length / (2 ^ 64) ^ a.length = c at *
  generalize outAt a b a.length = out at *
  show (bif decide (0 ≤ (((Wd a).length : Nat) : Int)) && decide ((((Wd a).length : Nat) : Int) < (((Wd out).length : Nat) : Int)) then
          (bif S173.pre ((Wd out).set (Wd a).length (c : Int), ()) then some (S173.F ((Wd out).set (Wd a).length (c : Int), ())) else none) else none) = _
  simp (disch := omega) only [wadd, wadd1, wadd64, wsubn, wsub1, wmul64, ilt_t, ilt_f, ile_t, ile_f, igt_t, igt_f, ige_t, ige_f, ipos_t, ipos_f, igt0_t, igt0_f, nnn, beq0_t, beq0_f, bne0_t, bne0_f, Int.toNat_natCast, Int.toNat_zero, cond_true, cond_false, Bool.and_self, Bool.true_and, Bool.and_true, Bool.false_and, Bool.and_false, Bool.not_true, Bool.not_false, Bool.or_self, Bool.true_or, Bool.or_true, Bool.false_or, Bool.or_false, Wd_len, pre173 p1, fun173 p1]
  rfl
theorem T143_eq (l m : List Nat) (hl : Ws l) (hm : Ws m) (hl2 : (trimL l).length < 1000000) (hm2 : (trimL m).length < 1000000) : T143 (Wd l, Wd m, ()) = some (Dw (nv (2 ^ 64) l + nv (2 ^ 64) m), ()) := by
  show t143 S155.pre S155.F S173.pre S173.F W143_8 (Wd l) (Wd m) = _
  unfold t143
  have p0 := T173_eq l hl.2
  have p1 := T173_eq m hm.2
  have h1 : ∀ x ∈ trimL l, x < 2 ^ 64 := fun x hx => hl.1 x (trim_mem hx)
  have h2 : ∀ x ∈ trimL m, x < 2 ^ 64 := fun x hx => hm.1 x (trim_mem hx)
  simp only [pre173 p0, fun173 p0, pre173 p1, fun173 p1, cond_true]
  rcases Nat.lt_or_ge (trimL l).length (trimL m).length with h | h
  · rw [Wd_len, Wd_len, ilt_t _ _ h, cond_true]
    have := add_main (trimL m) (trimL l) h2 h1 hm2 (by omega)
    rw [nv_trim (by decide) hl.1, nv_trim (by decide) hm.1, Nat.add_comm] at this
    exact this
  · rw [Wd_len, Wd_len, ilt_f _ _ h, cond_false]
    have := add_main (trimL l) (trimL m) h1 h2 hl2 (by omega)
    rw [nv_trim (by decide) hl.1, nv_trim (by decide) hm.1] at this
    exact this
theorem T146_eq (l : List Nat) (hl : Ws l) : T146 (Wd l, ()) = some (Dw (nv (2 ^ 64) l), ()) := by
  show t146 S173.pre S173.F (Wd l) = _
  unfold t146
  have p0 := T173_eq l hl.2
  have hle := (trim_len l).1
  have h2 := hl.2
  have e3 : decide ((((trimL l).length : Nat) : Int) * 8 ≤ 140737488355328) = true := decide_eq_true (by omega)
  simp (disch := omega) only [wadd, wadd1, wadd64, wsubn, wsub1, wmul64, ilt_t, ilt_f, ile_t, ile_f, igt_t, igt_f, ige_t, ige_f, ipos_t, ipos_f, igt0_t, igt0_f, nnn, beq0_t, beq0_f, bne0_t, bne0_f, Int.toNat_natCast, Int.toNat_zero, cond_true, cond_false, Bool.and_self, Bool.true_and, Bool.and_true, Bool.false_and, Bool.and_false, Bool.not_true, Bool.not_false, Bool.or_self, Bool.true_or, Bool.or_true, Bool.false_or, Bool.or_false, pre173 p0, fun173 p0, Wd_len, e3, List.length_replicate, List.drop_replicate, Nat.sub_self]
  rw [List.take_of_length_le (by rw [Wd_len]; exact Nat.le_refl _), List.replicate_zero, List.append_nil, trim_dg (by decide) l hl.1]
  rfl
theorem T102_eq (l : List Nat) (hl : Ws l) : T102 (Wd l, ()) = some (Dw (nv (2 ^ 64) l), ()) := by
  show t102 S146.pre S146.F (Wd l) = _
  unfold t102
  have p0 := T146_eq l hl
  simp only [pre146 p0, fun146 p0, cond_true]
end VL
