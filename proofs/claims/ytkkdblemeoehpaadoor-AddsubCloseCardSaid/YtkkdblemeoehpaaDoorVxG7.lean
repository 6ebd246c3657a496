/- Part 7 of the proof. What is proved: symbolic execution of the functions, proved sound; what each function of the program computes, and that every run ends with it; what these functions compute, in plain numbers. Conditions: each theorem bears its own. -/
import Derived.Test.YtkkdblemeoehpaaDoorVxG6
import Derived.ProofKit
import Derived.LaidMore
import Derived.OpenShut
import Derived.Stop.Joined
import GoSem.ClaimJoined
set_option linter.all false
set_option exponentiation.threshold 1000000
namespace Vx
open Go Go.Proofs
/-- vernier/vernierlaw06.into -/
abbrev I79 : Sig := [(false, .int .i64), (false, .int .i64)]
abbrev O79 : Sig := [(false, .int .i64)]
noncomputable def t79 (a0 : Den (.int .i64)) (a1 : Den (.int .i64)) : Option (DenS O79) :=
  bif (a1 != (0 : Int)) then
  (bif (a1 != (0 : Int)) then
  (some ((Int.tmod (Go.IntKind.wrap Go.IntKind.i64 ((Int.tmod a0 a1) + a1)) a1), ()))
  else none)
  else none
theorem r79 (a0 : Den (.int .i64)) (a1 : Den (.int .i64)) :
    run { P := Go.Proofs.Tryd.prog, sums := [], loops := [], globs := G1 } 9 79 Go.Proofs.Tryd.f79 I79 O79 (a0, a1, ()) = t79 a0 a1 := by kernel_rfl
noncomputable def T79 (x : DenS I79) : Option (DenS O79) := t79 x.1 x.2.1
noncomputable def C79 : Cfg := { P := Go.Proofs.Tryd.prog, sums := [], loops := [], globs := G1 }
noncomputable def S79 : Sum := sumOf I79 O79 T79 (DenS.dflt O79)
theorem S79_sound : Sound Go.Proofs.Tryd.prog G1 79 S79 :=
  fn_sound C79 9 79 Go.Proofs.Tryd.f79 mixedOk (by kernel_rfl) (by kernel_rfl) (by kernel_rfl) trivial trivial I79 O79 T79 _ fun x => r79 x.1 x.2.1
/-- vernier/vernierlaw06.width -/
abbrev I80 : Sig := [(false, .int .i64)]
abbrev O80 : Sig := [(false, .int .i64)]
noncomputable def t80 (p67 : DenS I67 → Bool) (f67 : DenS I67 → DenS O67) (a0 : Den (.int .i64)) : Option (DenS O80) :=
  bif (p67 (a0, ())) then
  (some ((f67 (a0, ())).1, ()))
  else none
theorem r80 (p67 : DenS I67 → Bool) (f67 : DenS I67 → DenS O67) (a0 : Den (.int .i64)) :
    run { P := Go.Proofs.Tryd.prog, sums := [(67, ⟨I67, O67, p67, f67⟩)], loops := [], globs := G1 } 9 80 Go.Proofs.Tryd.f80 I80 O80 (a0, ()) = t80 p67 f67 a0 := by kernel_rfl
noncomputable def T80 (x : DenS I80) : Option (DenS O80) := t80 S67.pre S67.F x.1
noncomputable def C80 : Cfg := { P := Go.Proofs.Tryd.prog, sums := [(67, S67)], loops := [], globs := G1 }
noncomputable def S80 : Sum := sumOf I80 O80 T80 (DenS.dflt O80)
theorem S80_sound : Sound Go.Proofs.Tryd.prog G1 80 S80 :=
  fn_sound C80 9 80 Go.Proofs.Tryd.f80 mixedOk (by kernel_rfl) (by kernel_rfl) (by kernel_rfl) ⟨S67_sound, trivial⟩ trivial I80 O80 T80 _ fun x => r80 S67.pre S67.F x.1
/-- (vernier/vernierlaw06.Three).right -/
abbrev I29 : Sig := [(true, .pair (.int .i64) (.pair (.int .i64) (.pair (.int .u64) (.pair (.int .u64) (.pair (.int .u64) (.unit))))))]
abbrev O29 : Sig := [(true, .pair (.int .i64) (.pair (.int .i64) (.pair (.int .u64) (.pair (.int .u64) (.pair (.int .u64) (.unit))))))]
noncomputable def t29 (p79 : DenS I79 → Bool) (f79 : DenS I79 → DenS O79) (p80 : DenS I80 → Bool) (f80 : DenS I80 → DenS O80) (a0 : Den (.pair (.int .i64) (.pair (.int .i64) (.pair (.int .u64) (.pair (.int .u64) (.pair (.int .u64) (.unit))))))) : Option (DenS O29) :=
  bif (p79 (a0.1, ((4 : Int), ()))) then
  (bif (p79 (a0.2.1, ((6 : Int), ()))) then
  (bif (p80 (f79 (a0.1, ((4 : Int), ())))) then
  (some (((f79 (a0.1, ((4 : Int), ()))).1, ((f79 (a0.2.1, ((6 : Int), ()))).1, ((Vx.shrI Go.IntKind.u64 (Vx.shlI Go.IntKind.u64 a0.2.2.1 (Go.IntKind.wrap Go.IntKind.u64 (Go.IntKind.wrap Go.IntKind.i64 ((64 : Int) - (f80 (f79 (a0.1, ((4 : Int), ())))).1)))) (Go.IntKind.wrap Go.IntKind.u64 (Go.IntKind.wrap Go.IntKind.i64 ((64 : Int) - (f80 (f79 (a0.1, ((4 : Int), ())))).1)))), ((Vx.shrI Go.IntKind.u64 (Vx.shlI Go.IntKind.u64 a0.2.2.2.1 (Go.IntKind.wrap Go.IntKind.u64 (Go.IntKind.wrap Go.IntKind.i64 ((64 : Int) - (f80 (f79 (a0.1, ((4 : Int), ())))).1)))) (Go.IntKind.wrap Go.IntKind.u64 (Go.IntKind.wrap Go.IntKind.i64 ((64 : Int) - (f80 (f79 (a0.1, ((4 : Int), ())))).1)))), ((Vx.shrI Go.IntKind.u64 (Vx.shlI Go.IntKind.u64 a0.2.2.2.2.1 (Go.IntKind.wrap Go.IntKind.u64 (Go.IntKind.wrap Go.IntKind.i64 ((64 : Int) - (f80 (f79 (a0.1, ((4 : Int), ())))).1)))) (Go.IntKind.wrap Go.IntKind.u64 (Go.IntKind.wrap Go.IntKind.i64 ((64 : Int) - (f80 (f79 (a0.1, ((4 : Int), ())))).1)))), ()))))), ()))
  else none)
  else none)
  else none
theorem r29 (p79 : DenS I79 → Bool) (f79 : DenS I79 → DenS O79) (p80 : DenS I80 → Bool) (f80 : DenS I80 → DenS O80) (a0 : Den (.pair (.int .i64) (.pair (.int .i64) (.pair (.int .u64) (.pair (.int .u64) (.pair (.int .u64) (.unit))))))) :
    run { P := Go.Proofs.Tryd.prog, sums := [(79, ⟨I79, O79, p79, f79⟩), (80, ⟨I80, O80, p80, f80⟩)], loops := [], globs := G1 } 9 29 Go.Proofs.Tryd.f29 I29 O29 (a0, ()) = t29 p79 f79 p80 f80 a0 := by kernel_rfl
noncomputable def T29 (x : DenS I29) : Option (DenS O29) := t29 S79.pre S79.F S80.pre S80.F x.1
noncomputable def C29 : Cfg := { P := Go.Proofs.Tryd.prog, sums := [(79, S79), (80, S80)], loops := [], globs := G1 }
noncomputable def S29 : Sum := sumOf I29 O29 T29 (DenS.dflt O29)
theorem S29_sound : Sound Go.Proofs.Tryd.prog G1 29 S29 :=
  fn_sound C29 9 29 Go.Proofs.Tryd.f29 mixedOk (by kernel_rfl) (by kernel_rfl) (by kernel_rfl) ⟨S79_sound, ⟨S80_sound, trivial⟩⟩ trivial I29 O29 T29 _ fun x => r29 S79.pre S79.F S80.pre S80.F x.1
/-- vernier/vernierlaw06.finite -/
abbrev I36 : Sig := [(false, .int .i64), (false, .int .u64)]
abbrev O36 : Sig := [(false, .bool)]
noncomputable def t36 (p74 : DenS I74 → Bool) (f74 : DenS I74 → DenS O74) (a0 : Den (.int .i64)) (a1 : Den (.int .u64)) : Option (DenS O36) :=
  bif (p74 (a0, (a1, ()))) then
  (some (((!(f74 (a0, (a1, ()))).1.1) && (!(f74 (a0, (a1, ()))).1.2.2.1)), ()))
  else none
theorem r36 (p74 : DenS I74 → Bool) (f74 : DenS I74 → DenS O74) (a0 : Den (.int .i64)) (a1 : Den (.int .u64)) :
    run { P := Go.Proofs.Tryd.prog, sums := [(74, ⟨I74, O74, p74, f74⟩)], loops := [], globs := G1 } 9 36 Go.Proofs.Tryd.f36 I36 O36 (a0, a1, ()) = t36 p74 f74 a0 a1 := by kernel_rfl
noncomputable def T36 (x : DenS I36) : Option (DenS O36) := t36 S74.pre S74.F x.1 x.2.1
noncomputable def C36 : Cfg := { P := Go.Proofs.Tryd.prog, sums := [(74, S74)], loops := [], globs := G1 }
noncomputable def S36 : Sum := sumOf I36 O36 T36 (DenS.dflt O36)
theorem S36_sound : Sound Go.Proofs.Tryd.prog G1 36 S36 :=
  fn_sound C36 9 36 Go.Proofs.Tryd.f36 mixedOk (by kernel_rfl) (by kernel_rfl) (by kernel_rfl) ⟨S74_sound, trivial⟩ trivial I36 O36 T36 _ fun x => r36 S74.pre S74.F x.1 x.2.1
/-- vernier/vernierlaw06.sub -/
abbrev I31 : Sig := [(false, .int .i64), (false, .int .i64), (false, .int .u64), (false, .int .u64)]
abbrev O31 : Sig := [(false, .int .u64), (false, .int .i64), (false, .bool)]
noncomputable def t31 (p25 : DenS I25 → Bool) (f25 : DenS I25 → DenS O25) (a0 : Den (.int .i64)) (a1 : Den (.int .i64)) (a2 : Den (.int .u64)) (a3 : Den (.int .u64)) : Option (DenS O31) :=
  bif (p25 (a0, (a1, (a2, (a3, ()))))) then
  (some ((f25 (a0, (a1, (a2, (a3, ()))))).1, ((f25 (a0, (a1, (a2, (a3, ()))))).2.1, (((f25 (a0, (a1, (a2, (a3, ()))))).2.2.1 == (0 : Int)), ()))))
  else none
theorem r31 (p25 : DenS I25 → Bool) (f25 : DenS I25 → DenS O25) (a0 : Den (.int .i64)) (a1 : Den (.int .i64)) (a2 : Den (.int .u64)) (a3 : Den (.int .u64)) :
    run { P := Go.Proofs.Tryd.prog, sums := [(25, ⟨I25, O25, p25, f25⟩)], loops := [], globs := G1 } 9 31 Go.Proofs.Tryd.f31 I31 O31 (a0, a1, a2, a3, ()) = t31 p25 f25 a0 a1 a2 a3 := by kernel_rfl
noncomputable def T31 (x : DenS I31) : Option (DenS O31) := t31 S25.pre S25.F x.1 x.2.1 x.2.2.1 x.2.2.2.1
noncomputable def C31 : Cfg := { P := Go.Proofs.Tryd.prog, sums := [(25, S25)], loops := [], globs := G1 }
noncomputable def S31 : Sum := sumOf I31 O31 T31 (DenS.dflt O31)
theorem S31_sound : Sound Go.Proofs.Tryd.prog G1 31 S31 :=
  fn_sound C31 9 31 Go.Proofs.Tryd.f31 mixedOk (by kernel_rfl) (by kernel_rfl) (by kernel_rfl) ⟨S25_sound, trivial⟩ trivial I31 O31 T31 _ fun x => r31 S25.pre S25.F x.1 x.2.1 x.2.2.1 x.2.2.2.1
end Vx
namespace Vx
open Go
theorem pre79 {x : DenS I79} {y : DenS O79} (h : T79 x = some y) : S79.pre x = true := sum_pre (T := T79) h
theorem fun79 {x : DenS I79} {y : DenS O79} (h : T79 x = some y) : S79.F x = y := sum_F (T := T79) h
theorem pre80 {x : DenS I80} {y : DenS O80} (h : T80 x = some y) : S80.pre x = true := sum_pre (T := T80) h
theorem fun80 {x : DenS I80} {y : DenS O80} (h : T80 x = some y) : S80.F x = y := sum_F (T := T80) h
theorem pre29 {x : DenS I29} {y : DenS O29} (h : T29 x = some y) : S29.pre x = true := sum_pre (T := T29) h
theorem fun29 {x : DenS I29} {y : DenS O29} (h : T29 x = some y) : S29.F x = y := sum_F (T := T29) h
theorem pre36 {x : DenS I36} {y : DenS O36} (h : T36 x = some y) : S36.pre x = true := sum_pre (T := T36) h
theorem fun36 {x : DenS I36} {y : DenS O36} (h : T36 x = some y) : S36.F x = y := sum_F (T := T36) h
theorem pre31 {x : DenS I31} {y : DenS O31} (h : T31 x = some y) : S31.pre x = true := sum_pre (T := T31) h
theorem fun31 {x : DenS I31} {y : DenS O31} (h : T31 x = some y) : S31.F x = y := sum_F (T := T31) h
end Vx
namespace VL
open Go Vx
theorem T79_in (n : Int) {w : Nat} (hw : 0 < w ∧ w < 100) : ∃ k : Nat, k < w ∧ T79 (n, (w : Int), ()) = some ((k : Int), ()) := by
  have hne : ((w : Int) != 0) = true := bne0_t _ (by omega)
  have ht : ∃ r : Int, Int.tmod n (w : Int) = r ∧ -(w : Int) < r ∧ r < (w : Int) := by
    rcases n with k | k
    · have e : Int.tmod (Int.ofNat k) (w : Int) = ((k % w : Nat) : Int) := rfl
      have := Nat.mod_lt k hw.1
      exact ⟨_, e, by omega, by omega⟩
    · have e : Int.tmod (Int.negSucc k) (w : Int) = -(((k + 1) % w : Nat) : Int) := rfl
      have := Nat.mod_lt (k + 1) hw.1
      exact ⟨_, e, by omega, by omega⟩
  obtain ⟨r, h1, h2, h3⟩ := ht
  obtain ⟨u, hu⟩ := Int.eq_ofNat_of_zero_le (show 0 ≤ r + (w : Int) by omega)
  refine ⟨u % w, Nat.mod_lt _ hw.1, ?_⟩
  show t79 n (w : Int) = _
  unfold t79
  rw [hne, cond_true, cond_true, h1, wrapI (by omega), hu]
  rfl
theorem T80_ok {f : Int} (hf : Fm f) : T80 (f, ()) = some ((fW f : Int), ()) := by
  show t80 S67.pre S67.F f = _
  unfold t80
  have p0 := T67_ok hf
  simp only [pre67 p0, fun67 p0, cond_true]
theorem cut_width {A W : Nat} (hW : W ≤ 64) : A * 2 ^ (64 - W) % 2 ^ 64 / 2 ^ (64 - W) = A % 2 ^ W := by
  have e : 2 ^ 64 = 2 ^ W * 2 ^ (64 - W) := by rw [← Nat.pow_add]; congr 1; omega
  rw [e, Nat.mul_mod_mul_right, Nat.mul_div_cancel _ (Nat.two_pow_pos _)]
theorem chk_mod {f : Int} (hf : Fm f) (A : Nat) : chk f (A % 2 ^ fW f) = 0 := chk_ok hf (Nat.mod_lt _ (Nat.two_pow_pos _))
theorem T29_ok (F M : Int) (A B C : Nat) : ∃ (f m : Int) (a b c : Nat), Fm f ∧ (0 ≤ m ∧ m ≤ 5) ∧ chk f a = 0 ∧ chk f b = 0 ∧ chk f c = 0 ∧
    T29 ((F, M, (A : Int), (B : Int), (C : Int), ()), ()) = some ((f, m, (a : Int), (b : Int), (c : Int), ()), ()) := by
  obtain ⟨f, hf, p1⟩ := T79_in F (w := 4) (by decide)
  obtain ⟨m, hm, p2⟩ := T79_in M (w := 6) (by decide)
  have hfm : Fm (f : Int) := ⟨by omega, by omega⟩
  have p3 := T80_ok hfm
  have hW := fW_le hfm
  refine ⟨f, m, A % 2 ^ fW f, B % 2 ^ fW f, C % 2 ^ fW f, hfm, ⟨by omega, by omega⟩, chk_mod hfm _, chk_mod hfm _, chk_mod hfm _, ?_⟩
  show t29 S79.pre S79.F S80.pre S80.F (F, M, (A : Int), (B : Int), (C : Int), ()) = _
  unfold t29
  have e1 : IntKind.wrap .u64 (IntKind.wrap .i64 (64 - (fW f : Int))) = ((64 - fW f : Nat) : Int) := by
    rw [wrapI (by omega), wrapU (by omega)]; omega
  have e2 : ∀ x : Nat, shrI .u64 (shlI .u64 (x : Int) ((64 - fW f : Nat) : Int)) ((64 - fW f : Nat) : Int) = ((x % 2 ^ fW f : Nat) : Int) := fun x => by
    rw [shlN _ _ (by omega), shrN _ _ (by omega), cut_width hW]
  rw [show ((4 : Nat) : Int) = 4 from rfl] at p1
  rw [show ((6 : Nat) : Int) = 6 from rfl] at p2
  simp only [pre79 p1, fun79 p1, pre79 p2, fun79 p2, pre80 p3, fun80 p3, cond_true, e1, e2]
theorem T36_eq {f : Int} (hf : Fm f) {a : Nat} (h : chk f a = 0) : T36 (f, (a : Int), ()) = some (decide (eF f a ≠ fullF f), ()) := by
  show t36 S74.pre S74.F f a = _
  unfold t36
  have p0 := T74_eq hf h
  by_cases hz : eF f a = fullF f
  · rw [if_pos hz] at p0
    simp only [pre74 p0, fun74 p0, cond_true]
    rw [decide_eq_false (fun hh => hh hz), bne]
    cases mF f a == 0 <;> rfl
  · rw [if_neg hz] at p0
    simp only [pre74 p0, fun74 p0, cond_true]
    rw [decide_eq_true hz]; rfl
/-- a sum's bits and flags, in naturals -/
def addN (f m : Int) (a b : Nat) : Nat × Nat :=
  bif snan f a || snan f b then (nanF f, 1)
  else bif nan f a || nan f b then (nanF f, 0)
  else bif (isInf f a && isInf f b) && !(sF f a == sF f b) then (nanF f, 1)
  else bif isInf f a then (a, 0)
  else bif isInf f b then (b, 0)
  else sumBits f m (sF f a) (mant f a) (xpn f a) (sF f b) (mant f b) (xpn f b)
theorem addR_N (f m : Int) (a b : Nat) : addR f m a b = (((addN f m a b).1 : Int), ((addN f m a b).2 : Int), 0, ()) := by
  unfold addR addN
  cases snan f a || snan f b <;> cases nan f a || nan f b <;> cases (isInf f a && isInf f b) && !(sF f a == sF f b) <;> cases isInf f a <;> cases isInf f b <;> rfl
theorem T31_ok {f m : Int} (hf : Fm f) (hm : 0 ≤ m ∧ m ≤ 5) {a b : Nat} (ha : chk f a = 0) (hb : chk f b = 0) :
    T31 (f, m, (a : Int), (b : Int), ()) = some (((addN f m a (negF f b)).1 : Int), ((addN f m a (negF f b)).2 : Int), true, ()) := by
  show t31 S25.pre S25.F f m a b = _
  unfold t31
  have p0 := T25_eq f m (pat_lt ha) (pat_lt hb)
  unfold subA addA at p0
  rw [if_pos hf, if_pos hm, if_pos hb, if_pos ⟨ha, neg_chk hf b⟩, addR_N] at p0
  simp only [pre25 p0, fun25 p0, cond_true]
  rfl
theorem eF_neg {f : Int} (hf : Fm f) (a : Nat) : eF f (negF f a) = eF f a := by rw [eF_abs hf, eF_abs hf, neg_abs]
theorem mF_neg {f : Int} (hf : Fm f) (a : Nat) : mF f (negF f a) = mF f a := by rw [mF_abs hf, mF_abs hf, neg_abs]
theorem mant_neg {f : Int} (hf : Fm f) (a : Nat) : mant f (negF f a) = mant f a := by unfold mant; rw [eF_neg hf, mF_neg hf]
theorem xpn_neg {f : Int} (hf : Fm f) (a : Nat) : xpn f (negF f a) = xpn f a := by unfold xpn; rw [eF_neg hf]
theorem zero_vals {f : Int} (hf : Fm f) (z : Bool) : chk f (mkF f z 0) = 0 ∧ eF f (mkF f z 0) = 0 ∧ mant f (mkF f z 0) = 0 ∧ sF f (mkF f z 0) = z := by
  have hlt : 0 < 2 ^ (fW f - 1) := Nat.two_pow_pos _
  have h0 := (zero_iff hf (mkF f z 0)).1 (mk_abs z hlt)
  refine ⟨mk_chk hf z hlt, h0.1, ?_, mk_sgn z hlt⟩
  unfold mant; rw [if_pos h0.1]; exact h0.2
end VL
namespace VL
open Go Vx
/-- a number as whole least steps -/
def vI (f : Int) (neg : Bool) (X : Nat) (e : Int) : Int := bif neg then -((X * 2 ^ (e - qm f).toNat : Nat) : Int) else ((X * 2 ^ (e - qm f).toNat : Nat) : Int)
theorem rnd_qm {f : Int} (hf : Fm f) (m : Int) (neg : Bool) {N : Nat} (hN : N ≠ 0) {e : Int} (he : qm f ≤ e) :
    rndN f m neg N e false = (mkF f neg (rndM f m neg (N * 2 ^ (e - qm f).toNat) (qm f)).1, (rndM f m neg (N * 2 ^ (e - qm f).toNat) (qm f)).2) := by
  have h := rnd_scale (f := f) (m := m) (neg := neg) hf hN (e - qm f).toNat (qm f)
  rw [show qm f + ((e - qm f).toNat : Int) = e by omega] at h
  rw [← h, rnd_M hf]
theorem sum_form {f : Int} (hf : Fm f) (nx : Bool) (X : Nat) (ex : Int) (ny : Bool) (Y : Nat) (ey : Int) (hx : qm f ≤ ex) (hy : qm f ≤ ey) :
    (vI f nx X ex + vI f ny Y ey = 0 → ∀ m, ∃ s, sumBits f m nx X ex ny Y ey = (sgnF f s, 0)) ∧
    (vI f nx X ex + vI f ny Y ey ≠ 0 → ∀ m, sumBits f m nx X ex ny Y ey =
      (mkF f (decide (vI f nx X ex + vI f ny Y ey < 0)) (rndM f m (decide (vI f nx X ex + vI f ny Y ey < 0)) (vI f nx X ex + vI f ny Y ey).natAbs (qm f)).1,
       (rndM f m (decide (vI f nx X ex + vI f ny Y ey < 0)) (vI f nx X ex + vI f ny Y ey).natAbs (qm f)).2)) := by
  obtain ⟨e, he⟩ : ∃ e, (if ex ≤ ey then ex else ey) = e := ⟨_, rfl⟩
  have he2 : e ≤ ex ∧ e ≤ ey ∧ qm f ≤ e := by rw [← he]; split <;> omega
  obtain ⟨a, ha⟩ : ∃ a, X * 2 ^ (ex - e).toNat = a := ⟨_, rfl⟩
  obtain ⟨b, hb⟩ : ∃ b, Y * 2 ^ (ey - e).toNat = b := ⟨_, rfl⟩
  have hS : ∀ m, sumBits f m nx X ex ny Y ey = if nx = ny then (if a + b = 0 then (sgnF f nx, 0) else rndN f m nx (a + b) e false)
      else if a = b then (sgnF f (m == 4), 0) else if b < a then rndN f m nx (a - b) e false else rndN f m ny (b - a) e false := fun m => by
    unfold sumBits
    simp only [he, ha, hb]
  have hp := Nat.two_pow_pos (e - qm f).toNat
  have hA : X * 2 ^ (ex - qm f).toNat = a * 2 ^ (e - qm f).toNat := by
    rw [← ha, Nat.mul_assoc, ← Nat.pow_add]; congr 2; omega
  have hB : Y * 2 ^ (ey - qm f).toNat = b * 2 ^ (e - qm f).toNat := by
    rw [← hb, Nat.mul_assoc, ← Nat.pow_add]; congr 2; omega
  have hr : ∀ m neg N, N ≠ 0 → rndN f m neg N e false = (mkF f neg (rndM f m neg (N * 2 ^ (e - qm f).toNat) (qm f)).1, (rndM f m neg (N * 2 ^ (e - qm f).toNat) (qm f)).2) :=
    fun m neg N hN => rnd_qm hf m neg hN he2.2.2
  have hsum := Nat.add_mul a b (2 ^ (e - qm f).toNat)
  have hd1 := Nat.sub_mul a b (2 ^ (e - qm f).toNat)
  have hd2 := Nat.sub_mul b a (2 ^ (e - qm f).toNat)
  unfold vI
  rw [hA, hB]
  have hz : ∀ n : Nat, n * 2 ^ (e - qm f).toNat = 0 → n = 0 := fun n h => by
    rcases Nat.mul_eq_zero.1 h with h | h
    · exact h
    · omega
  have hz2 : ∀ n : Nat, n ≠ 0 → n * 2 ^ (e - qm f).toNat ≠ 0 := fun n h h2 => h (hz n h2)
  by_cases hn : nx = ny
  · subst hn
    have hT : (bif nx then -((a * 2 ^ (e - qm f).toNat : Nat) : Int) else ((a * 2 ^ (e - qm f).toNat : Nat) : Int)) + (bif nx then -((b * 2 ^ (e - qm f).toNat : Nat) : Int) else ((b * 2 ^ (e - qm f).toNat : Nat) : Int)) = bif nx then -(((a + b) * 2 ^ (e - qm f).toNat : Nat) : Int) else (((a + b) * 2 ^ (e - qm f).toNat : Nat) : Int) := by
      rw [hsum]; cases nx <;> simp only [cond_true, cond_false] <;> omega
    rw [hT]
    refine ⟨fun h m => ?_, fun h m => ?_⟩
    · have : a + b = 0 := hz _ (by cases nx <;> simp only [cond_true, cond_false] at h <;> omega)
      exact ⟨nx, by rw [hS, if_pos rfl, if_pos this]⟩
    · have h0 : a + b ≠ 0 := fun h1 => h (by rw [h1, Nat.zero_mul]; cases nx <;> rfl)
      have h1 := hz2 _ h0
      rw [hS, if_pos rfl, if_neg h0, hr _ _ _ h0]
      generalize (a + b) * 2 ^ (e - qm f).toNat = n at *
      cases nx <;> simp only [cond_true, cond_false]
      · rw [decide_eq_false (by omega), Int.natAbs_natCast]
      · rw [decide_eq_true (by omega), Int.natAbs_neg, Int.natAbs_natCast]
  · have hny : ny = !nx := by cases nx <;> cases ny <;> first | rfl | exact absurd rfl hn
    subst hny
    rcases Nat.lt_trichotomy a b with hab | hab | hab
    · have hT : (bif nx then -((a * 2 ^ (e - qm f).toNat : Nat) : Int) else ((a * 2 ^ (e - qm f).toNat : Nat) : Int)) + (bif !nx then -((b * 2 ^ (e - qm f).toNat : Nat) : Int) else ((b * 2 ^ (e - qm f).toNat : Nat) : Int)) = bif !nx then -(((b - a) * 2 ^ (e - qm f).toNat : Nat) : Int) else (((b - a) * 2 ^ (e - qm f).toNat : Nat) : Int) := by
        have := Nat.mul_le_mul_right (2 ^ (e - qm f).toNat) (Nat.le_of_lt hab)
        rw [hd2]; cases nx <;> simp only [cond_true, cond_false, Bool.not_true, Bool.not_false] <;> omega
      have h0 : b - a ≠ 0 := by omega
      have h1 := hz2 _ h0
      rw [hT]
      refine ⟨fun h => ?_, fun h m => ?_⟩
      · exfalso
        generalize (b - a) * 2 ^ (e - qm f).toNat = n at *
        cases nx <;> simp only [cond_true, cond_false, Bool.not_true, Bool.not_false] at h <;> omega
      · rw [hS, if_neg hn, if_neg (show ¬ a = b by omega), if_neg (show ¬ b < a by omega), hr _ _ _ h0]
        generalize (b - a) * 2 ^ (e - qm f).toNat = n at *
        cases nx <;> simp only [cond_true, cond_false, Bool.not_true, Bool.not_false]
        · rw [decide_eq_true (by omega), Int.natAbs_neg, Int.natAbs_natCast]
        · rw [decide_eq_false (by omega), Int.natAbs_natCast]
    · subst hab
      refine ⟨fun _ m => ⟨m == 4, by rw [hS, if_neg hn, if_pos rfl]⟩, fun h => ?_⟩
      exfalso
      apply h
      cases nx <;> simp only [cond_true, cond_false, Bool.not_true, Bool.not_false] <;> omega
    · have hT : (bif nx then -((a * 2 ^ (e - qm f).toNat : Nat) : Int) else ((a * 2 ^ (e - qm f).toNat : Nat) : Int)) + (bif !nx then -((b * 2 ^ (e - qm f).toNat : Nat) : Int) else ((b * 2 ^ (e - qm f).toNat : Nat) : Int)) = bif nx then -(((a - b) * 2 ^ (e - qm f).toNat : Nat) : Int) else (((a - b) * 2 ^ (e - qm f).toNat : Nat) : Int) := by
        have := Nat.mul_le_mul_right (2 ^ (e - qm f).toNat) (Nat.le_of_lt hab)
        rw [hd1]; cases nx <;> simp only [cond_true, cond_false, Bool.not_true, Bool.not_false] <;> omega
      have h0 : a - b ≠ 0 := by omega
      have h1 := hz2 _ h0
      rw [hT]
      refine ⟨fun h => ?_, fun h m => ?_⟩
      · exfalso
        generalize (a - b) * 2 ^ (e - qm f).toNat = n at *
        cases nx <;> simp only [cond_true, cond_false] at h <;> omega
      · rw [hS, if_neg hn, if_neg (show ¬ a = b by omega), if_pos hab, hr _ _ _ h0]
        generalize (a - b) * 2 ^ (e - qm f).toNat = n at *
        cases nx <;> simp only [cond_true, cond_false]
        · rw [decide_eq_false (by omega), Int.natAbs_natCast]
        · rw [decide_eq_true (by omega), Int.natAbs_neg, Int.natAbs_natCast]
end VL
namespace VL
open Go Vx
theorem xpn_ge (f : Int) (a : Nat) : qm f ≤ xpn f a := by
  unfold xpn qm
  split <;> omega
/-- six values, the first i of them filled -/
def sl (V : Nat → Int) (i : Nat) : List Int := [if 0 < i then V 0 else 0, if 1 < i then V 1 else 0, if 2 < i then V 2 else 0, if 3 < i then V 3 else 0, if 4 < i then V 4 else 0, if 5 < i then V 5 else 0]
end VL
namespace VL
open Go Vx
def vA (f : Int) (a : Nat) : Int := vI f (sF f a) (mant f a) (xpn f a)
end VL
namespace Vx
open Go Go.Proofs
/-- vernier/format.Value -/
abbrev I40 : Sig := [(false, .int .i64), (false, .int .u64)]
abbrev O40 : Sig := [(true, .pair (.bool) (.pair (.slice (.int .u64)) (.pair (.int .i64) (.unit)))), (false, .int .i64)]
noncomputable def t40 (p66 : DenS I66 → Bool) (f66 : DenS I66 → DenS O66) (p90 : DenS I90 → Bool) (f90 : DenS I90 → DenS O90) (p91 : DenS I91 → Bool) (f91 : DenS I91 → DenS O91) (p92 : DenS I92 → Bool) (f92 : DenS I92 → DenS O92) (a0 : Den (.int .i64)) (a1 : Den (.int .u64)) : Option (DenS O40) :=
  bif (p66 (a0, (a1, ()))) then
  (bif ((f66 (a0, (a1, ()))).1 != (0 : Int)) then
  (some ((false, ([], ((0 : Int), ()))), (f66 (a0, (a1, ())))))
  else bif (bif (decide ((0 : Int) ≤ a0)) then (decide (a0 < ((4 : Nat) : Int))) else false) then
  (bif (p90 ((Vx.k_rows.getD (Int.toNat a0) ((0 : Int), ((0 : Int), ((0 : Int), ((0 : Int), ()))))), (a1, ()))) then
  (bif (p91 ((Go.IntKind.wrap Go.IntKind.i64 ((Vx.k_rows.getD (Int.toNat a0) ((0 : Int), ((0 : Int), ((0 : Int), ((0 : Int), ()))))).1 - (Vx.k_rows.getD (Int.toNat a0) ((0 : Int), ((0 : Int), ((0 : Int), ((0 : Int), ()))))).2.1)), ())) then
  (bif ((f90 ((Vx.k_rows.getD (Int.toNat a0) ((0 : Int), ((0 : Int), ((0 : Int), ((0 : Int), ()))))), (a1, ()))).2.1 == (f91 ((Go.IntKind.wrap Go.IntKind.i64 ((Vx.k_rows.getD (Int.toNat a0) ((0 : Int), ((0 : Int), ((0 : Int), ((0 : Int), ()))))).1 - (Vx.k_rows.getD (Int.toNat a0) ((0 : Int), ((0 : Int), ((0 : Int), ((0 : Int), ()))))).2.1)), ())).1) then
  (some ((false, ([], ((0 : Int), ()))), ((40 : Int), ())))
  else bif ((f90 ((Vx.k_rows.getD (Int.toNat a0) ((0 : Int), ((0 : Int), ((0 : Int), ((0 : Int), ()))))), (a1, ()))).2.1 == (0 : Int)) then
  (bif ((f90 ((Vx.k_rows.getD (Int.toNat a0) ((0 : Int), ((0 : Int), ((0 : Int), ((0 : Int), ()))))), (a1, ()))).2.2.1 == (0 : Int)) then
  (some ((false, ([], ((0 : Int), ()))), ((0 : Int), ())))
  else bif (p92 (f90 ((Vx.k_rows.getD (Int.toNat a0) ((0 : Int), ((0 : Int), ((0 : Int), ((0 : Int), ()))))), (a1, ()))).2.2) then
  (bif (decide ((0 : Int) ≤ (f92 (f90 ((Vx.k_rows.getD (Int.toNat a0) ((0 : Int), ((0 : Int), ((0 : Int), ((0 : Int), ()))))), (a1, ()))).2.2).1)) then
  (some (((f90 ((Vx.k_rows.getD (Int.toNat a0) ((0 : Int), ((0 : Int), ((0 : Int), ((0 : Int), ()))))), (a1, ()))).1, (((Vx.shrI Go.IntKind.u64 (f90 ((Vx.k_rows.getD (Int.toNat a0) ((0 : Int), ((0 : Int), ((0 : Int), ((0 : Int), ()))))), (a1, ()))).2.2.1 (f92 (f90 ((Vx.k_rows.getD (Int.toNat a0) ((0 : Int), ((0 : Int), ((0 : Int), ((0 : Int), ()))))), (a1, ()))).2.2).1) :: []), ((Go.IntKind.wrap Go.IntKind.i64 ((Go.IntKind.wrap Go.IntKind.i64 ((Go.IntKind.wrap Go.IntKind.i64 ((Go.IntKind.wrap Go.IntKind.i64 ((Go.IntKind.wrap Go.IntKind.i64 ((Go.IntKind.wrap Go.IntKind.i64 (1 : Int)) - (1 : Int))) + (Vx.k_rows.getD (Int.toNat a0) ((0 : Int), ((0 : Int), ((0 : Int), ((0 : Int), ()))))).2.2.1)) - (Vx.k_rows.getD (Int.toNat a0) ((0 : Int), ((0 : Int), ((0 : Int), ((0 : Int), ()))))).2.1)) + (1 : Int))) + (f92 (f90 ((Vx.k_rows.getD (Int.toNat a0) ((0 : Int), ((0 : Int), ((0 : Int), ((0 : Int), ()))))), (a1, ()))).2.2).1)), ()))), ((0 : Int), ())))
  else none)
  else none)
  else bif (decide ((0 : Int) ≤ (Go.IntKind.wrap Go.IntKind.i64 ((Vx.k_rows.getD (Int.toNat a0) ((0 : Int), ((0 : Int), ((0 : Int), ((0 : Int), ()))))).2.1 - (1 : Int))))) then
  (bif ((Vx.orI Go.IntKind.u64 (f90 ((Vx.k_rows.getD (Int.toNat a0) ((0 : Int), ((0 : Int), ((0 : Int), ((0 : Int), ()))))), (a1, ()))).2.2.1 (Vx.shlI Go.IntKind.u64 (1 : Int) (Go.IntKind.wrap Go.IntKind.i64 ((Vx.k_rows.getD (Int.toNat a0) ((0 : Int), ((0 : Int), ((0 : Int), ((0 : Int), ()))))).2.1 - (1 : Int))))) == (0 : Int)) then
  (some ((false, ([], ((0 : Int), ()))), ((0 : Int), ())))
  else bif (p92 ((Vx.orI Go.IntKind.u64 (f90 ((Vx.k_rows.getD (Int.toNat a0) ((0 : Int), ((0 : Int), ((0 : Int), ((0 : Int), ()))))), (a1, ()))).2.2.1 (Vx.shlI Go.IntKind.u64 (1 : Int) (Go.IntKind.wrap Go.IntKind.i64 ((Vx.k_rows.getD (Int.toNat a0) ((0 : Int), ((0 : Int), ((0 : Int), ((0 : Int), ()))))).2.1 - (1 : Int))))), ())) then
  (bif (decide ((0 : Int) ≤ (f92 ((Vx.orI Go.IntKind.u64 (f90 ((Vx.k_rows.getD (Int.toNat a0) ((0 : Int), ((0 : Int), ((0 : Int), ((0 : Int), ()))))), (a1, ()))).2.2.1 (Vx.shlI Go.IntKind.u64 (1 : Int) (Go.IntKind.wrap Go.IntKind.i64 ((Vx.k_rows.getD (Int.toNat a0) ((0 : Int), ((0 : Int), ((0 : Int), ((0 : Int), ()))))).2.1 - (1 : Int))))), ())).1)) then
  (some (((f90 ((Vx.k_rows.getD (Int.toNat a0) ((0 : Int), ((0 : Int), ((0 : Int), ((0 : Int), ()))))), (a1, ()))).1, (((Vx.shrI Go.IntKind.u64 (Vx.orI Go.IntKind.u64 (f90 ((Vx.k_rows.getD (Int.toNat a0) ((0 : Int), ((0 : Int), ((0 : Int), ((0 : Int), ()))))), (a1, ()))).2.2.1 (Vx.shlI Go.IntKind.u64 (1 : Int) (Go.IntKind.wrap Go.IntKind.i64 ((Vx.k_rows.getD (Int.toNat a0) ((0 : Int), ((0 : Int), ((0 : Int), ((0 : Int), ()))))).2.1 - (1 : Int))))) (f92 ((Vx.orI Go.IntKind.u64 (f90 ((Vx.k_rows.getD (Int.toNat a0) ((0 : Int), ((0 : Int), ((0 : Int), ((0 : Int), ()))))), (a1, ()))).2.2.1 (Vx.shlI Go.IntKind.u64 (1 : Int) (Go.IntKind.wrap Go.IntKind.i64 ((Vx.k_rows.getD (Int.toNat a0) ((0 : Int), ((0 : Int), ((0 : Int), ((0 : Int), ()))))).2.1 - (1 : Int))))), ())).1) :: []), ((Go.IntKind.wrap Go.IntKind.i64 ((Go.IntKind.wrap Go.IntKind.i64 ((Go.IntKind.wrap Go.IntKind.i64 ((Go.IntKind.wrap Go.IntKind.i64 ((Go.IntKind.wrap Go.IntKind.i64 ((Go.IntKind.wrap Go.IntKind.i64 (f90 ((Vx.k_rows.getD (Int.toNat a0) ((0 : Int), ((0 : Int), ((0 : Int), ((0 : Int), ()))))), (a1, ()))).2.1) - (1 : Int))) + (Vx.k_rows.getD (Int.toNat a0) ((0 : Int), ((0 : Int), ((0 : Int), ((0 : Int), ()))))).2.2.1)) - (Vx.k_rows.getD (Int.toNat a0) ((0 : Int), ((0 : Int), ((0 : Int), ((0 : Int), ()))))).2.1)) + (1 : Int))) + (f92 ((Vx.orI Go.IntKind.u64 (f90 ((Vx.k_rows.getD (Int.toNat a0) ((0 : Int), ((0 : Int), ((0 : Int), ((0 : Int), ()))))), (a1, ()))).2.2.1 (Vx.shlI Go.IntKind.u64 (1 : Int) (Go.IntKind.wrap Go.IntKind.i64 ((Vx.k_rows.getD (Int.toNat a0) ((0 : Int), ((0 : Int), ((0 : Int), ((0 : Int), ()))))).2.1 - (1 : Int))))), ())).1)), ()))), ((0 : Int), ())))
  else none)
  else none)
  else none)
  else none)
  else none)
  else none)
  else none
theorem r40 (p66 : DenS I66 → Bool) (f66 : DenS I66 → DenS O66) (p90 : DenS I90 → Bool) (f90 : DenS I90 → DenS O90) (p91 : DenS I91 → Bool) (f91 : DenS I91 → DenS O91) (p92 : DenS I92 → Bool) (f92 : DenS I92 → DenS O92) (a0 : Den (.int .i64)) (a1 : Den (.int .u64)) :
    run { P := Go.Proofs.Tryd.prog, sums := [(66, ⟨I66, O66, p66, f66⟩), (90, ⟨I90, O90, p90, f90⟩), (91, ⟨I91, O91, p91, f91⟩), (92, ⟨I92, O92, p92, f92⟩)], loops := [], globs := G1 } 9 40 Go.Proofs.Tryd.f40 I40 O40 (a0, a1, ()) = t40 p66 f66 p90 f90 p91 f91 p92 f92 a0 a1 := by kernel_rfl
noncomputable def T40 (x : DenS I40) : Option (DenS O40) := t40 S66.pre S66.F S90.pre S90.F S91.pre S91.F S92.pre S92.F x.1 x.2.1
noncomputable def C40 : Cfg := { P := Go.Proofs.Tryd.prog, sums := [(66, S66), (90, S90), (91, S91), (92, S92)], loops := [], globs := G1 }
noncomputable def S40 : Sum := sumOf I40 O40 T40 (DenS.dflt O40)
theorem S40_sound : Sound Go.Proofs.Tryd.prog G1 40 S40 :=
  fn_sound C40 9 40 Go.Proofs.Tryd.f40 mixedOk (by kernel_rfl) (by kernel_rfl) (by kernel_rfl) ⟨S66_sound.more G01, ⟨S90_sound.more G01, ⟨S91_sound.more G01, ⟨S92_sound, trivial⟩⟩⟩⟩ trivial I40 O40 T40 _ fun x => r40 S66.pre S66.F S90.pre S90.F S91.pre S91.F S92.pre S92.F x.1 x.2.1
/-- vernier/vernierlaw06.vOf -/
abbrev I50 : Sig := [(false, .int .i64), (false, .int .u64)]
abbrev O50 : Sig := [(true, .pair (.bool) (.pair (.slice (.int .u64)) (.pair (.int .i64) (.unit))))]
noncomputable def t50 (p40 : DenS I40 → Bool) (f40 : DenS I40 → DenS O40) (a0 : Den (.int .i64)) (a1 : Den (.int .u64)) : Option (DenS O50) :=
  bif (p40 (a0, (a1, ()))) then
  (some ((f40 (a0, (a1, ()))).1, ()))
  else none
theorem r50 (p40 : DenS I40 → Bool) (f40 : DenS I40 → DenS O40) (a0 : Den (.int .i64)) (a1 : Den (.int .u64)) :
    run { P := Go.Proofs.Tryd.prog, sums := [(40, ⟨I40, O40, p40, f40⟩)], loops := [], globs := G1 } 9 50 Go.Proofs.Tryd.f50 I50 O50 (a0, a1, ()) = t50 p40 f40 a0 a1 := by kernel_rfl
noncomputable def T50 (x : DenS I50) : Option (DenS O50) := t50 S40.pre S40.F x.1 x.2.1
noncomputable def C50 : Cfg := { P := Go.Proofs.Tryd.prog, sums := [(40, S40)], loops := [], globs := G1 }
noncomputable def S50 : Sum := sumOf I50 O50 T50 (DenS.dflt O50)
theorem S50_sound : Sound Go.Proofs.Tryd.prog G1 50 S50 :=
  fn_sound C50 9 50 Go.Proofs.Tryd.f50 mixedOk (by kernel_rfl) (by kernel_rfl) (by kernel_rfl) ⟨S40_sound, trivial⟩ trivial I50 O50 T50 _ fun x => r50 S40.pre S40.F x.1 x.2.1
/-- vernier/dyad.refuses -/
abbrev I103 : Sig := [(true, .pair (.bool) (.pair (.slice (.int .u64)) (.pair (.int .i64) (.unit))))]
abbrev O103 : Sig := [(false, .int .i64)]
noncomputable def t103 (a0 : Den (.pair (.bool) (.pair (.slice (.int .u64)) (.pair (.int .i64) (.unit))))) : Option (DenS O103) :=
  bif (decide ((a0.2.1.length : Int) > (1024 : Int))) then
  (some ((5 : Int), ()))
  else bif ((decide (a0.2.2.1 < (-(40000 : Int)))) || (decide (a0.2.2.1 > (40000 : Int)))) then
  (some ((30 : Int), ()))
  else some ((0 : Int), ())
theorem r103 (a0 : Den (.pair (.bool) (.pair (.slice (.int .u64)) (.pair (.int .i64) (.unit))))) :
    run { P := Go.Proofs.Tryd.prog, sums := [], loops := [], globs := G1 } 9 103 Go.Proofs.Tryd.f103 I103 O103 (a0, ()) = t103 a0 := by kernel_rfl
noncomputable def T103 (x : DenS I103) : Option (DenS O103) := t103 x.1
noncomputable def C103 : Cfg := { P := Go.Proofs.Tryd.prog, sums := [], loops := [], globs := G1 }
noncomputable def S103 : Sum := sumOf I103 O103 T103 (DenS.dflt O103)
theorem S103_sound : Sound Go.Proofs.Tryd.prog G1 103 S103 :=
  fn_sound C103 9 103 Go.Proofs.Tryd.f103 mixedOk (by kernel_rfl) (by kernel_rfl) (by kernel_rfl) trivial trivial I103 O103 T103 _ fun x => r103 x.1
/-- vernier/dyad.two -/
abbrev I99 : Sig := [(true, .pair (.bool) (.pair (.slice (.int .u64)) (.pair (.int .i64) (.unit)))), (true, .pair (.bool) (.pair (.slice (.int .u64)) (.pair (.int .i64) (.unit))))]
abbrev O99 : Sig := [(false, .int .i64)]
noncomputable def t99 (p103 : DenS I103 → Bool) (f103 : DenS I103 → DenS O103) (a0 : Den (.pair (.bool) (.pair (.slice (.int .u64)) (.pair (.int .i64) (.unit))))) (a1 : Den (.pair (.bool) (.pair (.slice (.int .u64)) (.pair (.int .i64) (.unit))))) : Option (DenS O99) :=
  bif (p103 ((a0.1, a0.2), ())) then
  (bif ((f103 ((a0.1, a0.2), ())).1 != (0 : Int)) then
  (some (f103 ((a0.1, a0.2), ())))
  else bif (p103 ((a1.1, a1.2), ())) then
  (some (f103 ((a1.1, a1.2), ())))
  else none)
  else none
theorem r99 (p103 : DenS I103 → Bool) (f103 : DenS I103 → DenS O103) (a0 : Den (.pair (.bool) (.pair (.slice (.int .u64)) (.pair (.int .i64) (.unit))))) (a1 : Den (.pair (.bool) (.pair (.slice (.int .u64)) (.pair (.int .i64) (.unit))))) :
    run { P := Go.Proofs.Tryd.prog, sums := [(103, ⟨I103, O103, p103, f103⟩)], loops := [], globs := G1 } 9 99 Go.Proofs.Tryd.f99 I99 O99 (a0, a1, ()) = t99 p103 f103 a0 a1 := by kernel_rfl
noncomputable def T99 (x : DenS I99) : Option (DenS O99) := t99 S103.pre S103.F x.1 x.2.1
noncomputable def C99 : Cfg := { P := Go.Proofs.Tryd.prog, sums := [(103, S103)], loops := [], globs := G1 }
noncomputable def S99 : Sum := sumOf I99 O99 T99 (DenS.dflt O99)
theorem S99_sound : Sound Go.Proofs.Tryd.prog G1 99 S99 :=
  fn_sound C99 9 99 Go.Proofs.Tryd.f99 mixedOk (by kernel_rfl) (by kernel_rfl) (by kernel_rfl) ⟨S103_sound, trivial⟩ trivial I99 O99 T99 _ fun x => r99 S103.pre S103.F x.1 x.2.1
/-- vernier/dyad.odd -/
abbrev I100 : Sig := [(true, .pair (.bool) (.pair (.slice (.int .u64)) (.pair (.int .i64) (.unit))))]
abbrev O100 : Sig := [(true, .pair (.bool) (.pair (.slice (.int .u64)) (.pair (.int .i64) (.unit))))]
abbrev P100_5 : Pat := ⟨42, [(4, .one (.v .i64)), (3, .one (.sl (.int .u64))), (1, .one (.ptr 0 0)), (2, .one (.ptr 1 0))], [.raw [.bool, .sl (.int .u64), .v .i64], .raw [.bool, .sl (.int .u64), .v .i64]]⟩
abbrev A100_5 : List (Nat × Shape) := []
abbrev X100_5 : List (Nat × Pat) := [(0, ⟨42, [(4, .one (.v .i64)), (3, .one (.sl (.int .u64))), (1, .one (.ptr 0 0)), (2, .one (.ptr 1 0))], [.raw [.bool, .sl (.int .u64), .v .i64], .raw [.bool, .sl (.int .u64), .v .i64]]⟩)]
abbrev Q100_5 : Option Pat := none
noncomputable def h100_5 (p102 : DenS I102 → Bool) (f102 : DenS I102 → DenS O102) (p92 : DenS I92 → Bool) (f92 : DenS I92 → DenS O92) (p141 : DenS I141 → Bool) (f141 : DenS I141 → DenS O141) {R : Type} (L : Pat.D P100_5 → Option R) (e : OutT X100_5 Q100_5 → Option R) (x : Pat.D P100_5) : Option R :=
  bif ((decide ((0 : Int) ≤ (Vx.quoI Go.IntKind.i64 x.1.1 (64 : Int)))) && (decide ((Vx.quoI Go.IntKind.i64 x.1.1 (64 : Int)) < (x.1.2.1.length : Int)))) then
  (bif ((x.1.2.1.getD (Int.toNat (Vx.quoI Go.IntKind.i64 x.1.1 (64 : Int))) (0 : Int)) == (0 : Int)) then
  ((L (((Go.IntKind.wrap Go.IntKind.i64 (x.1.1 + (64 : Int))), (x.1.2.1, ((), ((), ())))), x.2)))
  else (e (.inl ((x.1.1, (x.1.2.1, ((), ((), ())))), x.2))))
  else none
theorem s100_5 (p102 : DenS I102 → Bool) (f102 : DenS I102 → DenS O102) (p92 : DenS I92 → Bool) (f92 : DenS I92 → DenS O92) (p141 : DenS I141 → Bool) (f141 : DenS I141 → DenS O141) (w100_5 : Pat.D P100_5 → Option (OutT X100_5 Q100_5)) (d : Nat) (R : Type) (L : Pat.D P100_5 → Option R) (e : OutT X100_5 Q100_5 → Option R) (x : Pat.D P100_5) :
    lStep { P := Go.Proofs.Tryd.prog, sums := [(102, ⟨I102, O102, p102, f102⟩), (92, ⟨I92, O92, p92, f92⟩), (141, ⟨I141, O141, p141, f141⟩)], loops := [(100, 5, LoopSpec.of P100_5 A100_5 X100_5 Q100_5 w100_5)], globs := G1 } (d + 2) 100 (bodyOf Go.Proofs.Tryd.f100 5) P100_5 A100_5 X100_5 Q100_5 (R := R) L e x = h100_5 p102 f102 p92 f92 p141 f141 L e x := by kernel_rfl
theorem m100_5 (p102 : DenS I102 → Bool) (f102 : DenS I102 → DenS O102) (p92 : DenS I92 → Bool) (f92 : DenS I92 → DenS O92) (p141 : DenS I141 → Bool) (f141 : DenS I141 → DenS O141) : Par fun L e x => h100_5 p102 f102 p92 f92 p141 f141 L e x := by
  intro A B rel L L' e e' h0 hL he x
  unfold h100_5
  repeat' (first | exact h0 | exact hL _ | exact he _ | apply rel_cond | (apply rel_obind h0; intro _) | (apply rel_obind2 <;> intro _))
noncomputable def t100 (p102 : DenS I102 → Bool) (f102 : DenS I102 → DenS O102) (p92 : DenS I92 → Bool) (f92 : DenS I92 → DenS O92) (p141 : DenS I141 → Bool) (f141 : DenS I141 → DenS O141) (w100_5 : Pat.D P100_5 → Option (OutT X100_5 Q100_5)) (a0 : Den (.pair (.bool) (.pair (.slice (.int .u64)) (.pair (.int .i64) (.unit))))) : Option (DenS O100) :=
  bif (p102 (a0.2.1, ())) then
  (bif (((f102 (a0.2.1, ())).1.length : Int) == (0 : Int)) then
  (some ((false, ([], ((0 : Int), ()))), ()))
  else Vx.obind (w100_5 (((0 : Int), ((f102 (a0.2.1, ())).1, ((), ((), ())))), ((a0.1, a0.2), ((false, ([], ((0 : Int), ()))), ())))) fun y2 =>
  Vx.obind2 y2 (fun y3 =>
  bif ((decide ((0 : Int) ≤ (Vx.quoI Go.IntKind.i64 y3.1.1 (64 : Int)))) && (decide ((Vx.quoI Go.IntKind.i64 y3.1.1 (64 : Int)) < (y3.1.2.1.length : Int)))) then
  (bif (p92 ((y3.1.2.1.getD (Int.toNat (Vx.quoI Go.IntKind.i64 y3.1.1 (64 : Int))) (0 : Int)), ())) then
  (bif (p141 (y3.1.2.1, ((Go.IntKind.wrap Go.IntKind.i64 (y3.1.1 + (f92 ((y3.1.2.1.getD (Int.toNat (Vx.quoI Go.IntKind.i64 y3.1.1 (64 : Int))) (0 : Int)), ())).1)), ()))) then
  (some ((y3.2.1.1, ((f141 (y3.1.2.1, ((Go.IntKind.wrap Go.IntKind.i64 (y3.1.1 + (f92 ((y3.1.2.1.getD (Int.toNat (Vx.quoI Go.IntKind.i64 y3.1.1 (64 : Int))) (0 : Int)), ())).1)), ()))).1, ((Go.IntKind.wrap Go.IntKind.i64 (y3.2.1.2.2.1 + (Go.IntKind.wrap Go.IntKind.i64 (y3.1.1 + (f92 ((y3.1.2.1.getD (Int.toNat (Vx.quoI Go.IntKind.i64 y3.1.1 (64 : Int))) (0 : Int)), ())).1)))), ()))), ()))
  else none)
  else none)
  else none) (fun z3 =>
  none))
  else none
theorem r100 (p102 : DenS I102 → Bool) (f102 : DenS I102 → DenS O102) (p92 : DenS I92 → Bool) (f92 : DenS I92 → DenS O92) (p141 : DenS I141 → Bool) (f141 : DenS I141 → DenS O141) (w100_5 : Pat.D P100_5 → Option (OutT X100_5 Q100_5)) (a0 : Den (.pair (.bool) (.pair (.slice (.int .u64)) (.pair (.int .i64) (.unit))))) :
    run { P := Go.Proofs.Tryd.prog, sums := [(102, ⟨I102, O102, p102, f102⟩), (92, ⟨I92, O92, p92, f92⟩), (141, ⟨I141, O141, p141, f141⟩)], loops := [(100, 5, LoopSpec.of P100_5 A100_5 X100_5 Q100_5 w100_5)], globs := G1 } 9 100 Go.Proofs.Tryd.f100 I100 O100 (a0, ()) = t100 p102 f102 p92 f92 p141 f141 w100_5 a0 := by kernel_rfl
noncomputable def W100_5 : P100_5.D → Option (OutT X100_5 Q100_5) := lfix fun L => h100_5 S102.pre S102.F S92.pre S92.F S141.pre S141.F L some
noncomputable def T100 (x : DenS I100) : Option (DenS O100) := t100 S102.pre S102.F S92.pre S92.F S141.pre S141.F W100_5 x.1
noncomputable def C100 : Cfg := { P := Go.Proofs.Tryd.prog, sums := [(102, S102), (92, S92), (141, S141)], loops := [(100, 5, LoopSpec.of P100_5 A100_5 X100_5 Q100_5 W100_5)], globs := G1 }
noncomputable def S100 : Sum := sumOf I100 O100 T100 (DenS.dflt O100)
theorem S100_sound : Sound Go.Proofs.Tryd.prog G1 100 S100 :=
  fn_sound C100 9 100 Go.Proofs.Tryd.f100 mixedOk (by kernel_rfl) (by kernel_rfl) (by kernel_rfl) ⟨S102_sound, ⟨S92_sound, ⟨S141_sound, trivial⟩⟩⟩ ⟨rfl, fun d => loopOk_of (fun L e x => h100_5 S102.pre S102.F S92.pre S92.F S141.pre S141.F L e x) (m100_5 S102.pre S102.F S92.pre S92.F S141.pre S141.F) (fun R L e x => s100_5 S102.pre S102.F S92.pre S92.F S141.pre S141.F W100_5 d R L e x), trivial⟩ I100 O100 T100 _ fun x => r100 S102.pre S102.F S92.pre S92.F S141.pre S141.F W100_5 x.1
/-- vernier/dyad.raised -/
abbrev I172 : Sig := [(false, .slice (.int .u64)), (false, .int .i64)]
abbrev O172 : Sig := [(false, .slice (.int .u64))]
abbrev P172_6 : Pat := ⟨57, [(25, .one (.v .i64)), (24, .one (.sl (.int .u64))), (5, .one (.v .i64)), (6, .one (.v .u64)), (26, .one (.v .i64)), (7, .one (.own 0))], [.arr (.int .u64)]⟩
abbrev A172_6 : List (Nat × Shape) := []
abbrev X172_6 : List (Nat × Pat) := [(0, ⟨57, [(7, .one (.own 0))], [.arr (.int .u64)]⟩)]
abbrev Q172_6 : Option Pat := none
noncomputable def h172_6 (p102 : DenS I102 → Bool) (f102 : DenS I102 → DenS O102) {R : Type} (L : Pat.D P172_6 → Option R) (e : OutT X172_6 Q172_6 → Option R) (x : Pat.D P172_6) : Option R :=
  bif (decide (x.1.2.2.2.2.1 < x.1.1)) then
  (bif ((decide ((0 : Int) ≤ x.1.2.2.2.2.1)) && (decide (x.1.2.2.2.2.1 < (x.1.2.1.length : Int)))) then
  (bif ((decide ((0 : Int) ≤ (Go.IntKind.wrap Go.IntKind.i64 (x.1.2.2.1 + x.1.2.2.2.2.1)))) && (decide ((Go.IntKind.wrap Go.IntKind.i64 (x.1.2.2.1 + x.1.2.2.2.2.1)) < (x.2.1.length : Int)))) then
  (bif ((decide ((0 : Int) ≤ (Go.IntKind.wrap Go.IntKind.i64 (x.1.2.2.1 + x.1.2.2.2.2.1)))) && (decide ((Go.IntKind.wrap Go.IntKind.i64 (x.1.2.2.1 + x.1.2.2.2.2.1)) < (x.2.1.length : Int)))) then
  (bif (decide (x.1.2.2.2.1 > (0 : Int))) then
  (bif ((decide ((0 : Int) ≤ (Go.IntKind.wrap Go.IntKind.i64 ((Go.IntKind.wrap Go.IntKind.i64 (x.1.2.2.1 + x.1.2.2.2.2.1)) + (1 : Int))))) && (decide ((Go.IntKind.wrap Go.IntKind.i64 ((Go.IntKind.wrap Go.IntKind.i64 (x.1.2.2.1 + x.1.2.2.2.2.1)) + (1 : Int))) < ((x.2.1.set (Int.toNat (Go.IntKind.wrap Go.IntKind.i64 (x.1.2.2.1 + x.1.2.2.2.2.1))) (Vx.orI Go.IntKind.u64 (x.2.1.getD (Int.toNat (Go.IntKind.wrap Go.IntKind.i64 (x.1.2.2.1 + x.1.2.2.2.2.1))) (0 : Int)) (Vx.shlI Go.IntKind.u64 (x.1.2.1.getD (Int.toNat x.1.2.2.2.2.1) (0 : Int)) x.1.2.2.2.1))).length : Int)))) then
  ((L ((x.1.1, (x.1.2.1, (x.1.2.2.1, (x.1.2.2.2.1, ((Go.IntKind.wrap Go.IntKind.i64 (x.1.2.2.2.2.1 + (1 : Int))), ((), ())))))), (((x.2.1.set (Int.toNat (Go.IntKind.wrap Go.IntKind.i64 (x.1.2.2.1 + x.1.2.2.2.2.1))) (Vx.orI Go.IntKind.u64 (x.2.1.getD (Int.toNat (Go.IntKind.wrap Go.IntKind.i64 (x.1.2.2.1 + x.1.2.2.2.2.1))) (0 : Int)) (Vx.shlI Go.IntKind.u64 (x.1.2.1.getD (Int.toNat x.1.2.2.2.2.1) (0 : Int)) x.1.2.2.2.1))).set (Int.toNat (Go.IntKind.wrap Go.IntKind.i64 ((Go.IntKind.wrap Go.IntKind.i64 (x.1.2.2.1 + x.1.2.2.2.2.1)) + (1 : Int)))) (Vx.shrI Go.IntKind.u64 (x.1.2.1.getD (Int.toNat x.1.2.2.2.2.1) (0 : Int)) (Go.IntKind.wrap Go.IntKind.u64 ((64 : Int) - x.1.2.2.2.1)))), ()))))
  else none)
  else (L ((x.1.1, (x.1.2.1, (x.1.2.2.1, (x.1.2.2.2.1, ((Go.IntKind.wrap Go.IntKind.i64 (x.1.2.2.2.2.1 + (1 : Int))), ((), ())))))), ((x.2.1.set (Int.toNat (Go.IntKind.wrap Go.IntKind.i64 (x.1.2.2.1 + x.1.2.2.2.2.1))) (Vx.orI Go.IntKind.u64 (x.2.1.getD (Int.toNat (Go.IntKind.wrap Go.IntKind.i64 (x.1.2.2.1 + x.1.2.2.2.2.1))) (0 : Int)) (Vx.shlI Go.IntKind.u64 (x.1.2.1.getD (Int.toNat x.1.2.2.2.2.1) (0 : Int)) x.1.2.2.2.1))), ()))))
  else none)
  else none)
  else none)
  else (e (.inl (((), ()), x.2)))
theorem s172_6 (p102 : DenS I102 → Bool) (f102 : DenS I102 → DenS O102) (w172_6 : Pat.D P172_6 → Option (OutT X172_6 Q172_6)) (d : Nat) (R : Type) (L : Pat.D P172_6 → Option R) (e : OutT X172_6 Q172_6 → Option R) (x : Pat.D P172_6) :
    lStep { P := Go.Proofs.Tryd.prog, sums := [(102, ⟨I102, O102, p102, f102⟩)], loops := [(172, 6, LoopSpec.of P172_6 A172_6 X172_6 Q172_6 w172_6)], globs := G1 } (d + 2) 172 (bodyOf Go.Proofs.Tryd.f172 6) P172_6 A172_6 X172_6 Q172_6 (R := R) L e x = h172_6 p102 f102 L e x := by kernel_rfl
theorem m172_6 (p102 : DenS I102 → Bool) (f102 : DenS I102 → DenS O102) : Par fun L e x => h172_6 p102 f102 L e x := by
  intro A B rel L L' e e' h0 hL he x
  unfold h172_6
  repeat' (first | exact h0 | exact hL _ | exact he _ | apply rel_cond | (apply rel_obind h0; intro _) | (apply rel_obind2 <;> intro _))
noncomputable def t172 (p102 : DenS I102 → Bool) (f102 : DenS I102 → DenS O102) (w172_6 : Pat.D P172_6 → Option (OutT X172_6 Q172_6)) (a0 : Den (.slice (.int .u64))) (a1 : Den (.int .i64)) : Option (DenS O172) :=
  bif ((a0.length : Int) == (0 : Int)) then
  (some ([], ()))
  else bif ((decide ((0 : Int) ≤ (Go.IntKind.wrap Go.IntKind.i64 ((Go.IntKind.wrap Go.IntKind.i64 ((Vx.quoI Go.IntKind.i64 a1 (64 : Int)) + (a0.length : Int))) + (1 : Int))))) && (decide (((Go.IntKind.wrap Go.IntKind.i64 ((Go.IntKind.wrap Go.IntKind.i64 ((Vx.quoI Go.IntKind.i64 a1 (64 : Int)) + (a0.length : Int))) + (1 : Int))) * (8 : Int)) ≤ (140737488355328 : Int)))) then
  (Vx.obind (w172_6 (((a0.length : Int), (a0, ((Vx.quoI Go.IntKind.i64 a1 (64 : Int)), ((Go.IntKind.wrap Go.IntKind.u64 (Int.tmod a1 (64 : Int))), ((0 : Int), ((), ())))))), ((List.replicate (Int.toNat (Go.IntKind.wrap Go.IntKind.i64 ((Go.IntKind.wrap Go.IntKind.i64 ((Vx.quoI Go.IntKind.i64 a1 (64 : Int)) + (a0.length : Int))) + (1 : Int)))) (0 : Int)), ()))) fun y2 =>
  Vx.obind2 y2 (fun y3 =>
  bif (p102 y3.2) then
  (some (f102 y3.2))
  else none) (fun z3 =>
  none))
  else none
theorem r172 (p102 : DenS I102 → Bool) (f102 : DenS I102 → DenS O102) (w172_6 : Pat.D P172_6 → Option (OutT X172_6 Q172_6)) (a0 : Den (.slice (.int .u64))) (a1 : Den (.int .i64)) :
    run { P := Go.Proofs.Tryd.prog, sums := [(102, ⟨I102, O102, p102, f102⟩)], loops := [(172, 6, LoopSpec.of P172_6 A172_6 X172_6 Q172_6 w172_6)], globs := G1 } 9 172 Go.Proofs.Tryd.f172 I172 O172 (a0, a1, ()) = t172 p102 f102 w172_6 a0 a1 := by kernel_rfl
noncomputable def W172_6 : P172_6.D → Option (OutT X172_6 Q172_6) := lfix fun L => h172_6 S102.pre S102.F L some
noncomputable def T172 (x : DenS I172) : Option (DenS O172) := t172 S102.pre S102.F W172_6 x.1 x.2.1
noncomputable def C172 : Cfg := { P := Go.Proofs.Tryd.prog, sums := [(102, S102)], loops := [(172, 6, LoopSpec.of P172_6 A172_6 X172_6 Q172_6 W172_6)], globs := G1 }
noncomputable def S172 : Sum := sumOf I172 O172 T172 (DenS.dflt O172)
theorem S172_sound : Sound Go.Proofs.Tryd.prog G1 172 S172 :=
  fn_sound C172 9 172 Go.Proofs.Tryd.f172 mixedOk (by kernel_rfl) (by kernel_rfl) (by kernel_rfl) ⟨S102_sound, trivial⟩ ⟨rfl, fun d => loopOk_of (fun L e x => h172_6 S102.pre S102.F L e x) (m172_6 S102.pre S102.F) (fun R L e x => s172_6 S102.pre S102.F W172_6 d R L e x), trivial⟩ I172 O172 T172 _ fun x => r172 S102.pre S102.F W172_6 x.1 x.2.1
/-- vernier/dyad.aligned -/
abbrev I142 : Sig := [(true, .pair (.bool) (.pair (.slice (.int .u64)) (.pair (.int .i64) (.unit)))), (true, .pair (.bool) (.pair (.slice (.int .u64)) (.pair (.int .i64) (.unit))))]
abbrev O142 : Sig := [(false, .slice (.int .u64)), (false, .slice (.int .u64)), (false, .int .i64)]
noncomputable def t142 (p172 : DenS I172 → Bool) (f172 : DenS I172 → DenS O172) (a0 : Den (.pair (.bool) (.pair (.slice (.int .u64)) (.pair (.int .i64) (.unit))))) (a1 : Den (.pair (.bool) (.pair (.slice (.int .u64)) (.pair (.int .i64) (.unit))))) : Option (DenS O142) :=
  bif (p172 (a0.2.1, ((Go.IntKind.wrap Go.IntKind.i64 (a0.2.2.1 - (if (a1.2.2.1 < a0.2.2.1) then a1.2.2.1 else a0.2.2.1))), ()))) then
  (bif (p172 (a1.2.1, ((Go.IntKind.wrap Go.IntKind.i64 (a1.2.2.1 - (if (a1.2.2.1 < a0.2.2.1) then a1.2.2.1 else a0.2.2.1))), ()))) then
  (some ((f172 (a0.2.1, ((Go.IntKind.wrap Go.IntKind.i64 (a0.2.2.1 - (if (a1.2.2.1 < a0.2.2.1) then a1.2.2.1 else a0.2.2.1))), ()))).1, ((f172 (a1.2.1, ((Go.IntKind.wrap Go.IntKind.i64 (a1.2.2.1 - (if (a1.2.2.1 < a0.2.2.1) then a1.2.2.1 else a0.2.2.1))), ()))).1, ((if (a1.2.2.1 < a0.2.2.1) then a1.2.2.1 else a0.2.2.1), ()))))
  else none)
  else none
theorem r142 (p172 : DenS I172 → Bool) (f172 : DenS I172 → DenS O172) (a0 : Den (.pair (.bool) (.pair (.slice (.int .u64)) (.pair (.int .i64) (.unit))))) (a1 : Den (.pair (.bool) (.pair (.slice (.int .u64)) (.pair (.int .i64) (.unit))))) :
    run { P := Go.Proofs.Tryd.prog, sums := [(172, ⟨I172, O172, p172, f172⟩)], loops := [], globs := G1 } 9 142 Go.Proofs.Tryd.f142 I142 O142 (a0, a1, ()) = t142 p172 f172 a0 a1 := by kernel_rfl
noncomputable def T142 (x : DenS I142) : Option (DenS O142) := t142 S172.pre S172.F x.1 x.2.1
noncomputable def C142 : Cfg := { P := Go.Proofs.Tryd.prog, sums := [(172, S172)], loops := [], globs := G1 }
noncomputable def S142 : Sum := sumOf I142 O142 T142 (DenS.dflt O142)
theorem S142_sound : Sound Go.Proofs.Tryd.prog G1 142 S142 :=
  fn_sound C142 9 142 Go.Proofs.Tryd.f142 mixedOk (by kernel_rfl) (by kernel_rfl) (by kernel_rfl) ⟨S172_sound, trivial⟩ trivial I142 O142 T142 _ fun x => r142 S172.pre S172.F x.1 x.2.1
/-- vernier/nat.Cmp -/
abbrev I144 : Sig := [(false, .slice (.int .u64)), (false, .slice (.int .u64))]
abbrev O144 : Sig := [(false, .int .i64)]
abbrev P144_7 : Pat := ⟨49, [(0, .one (.sl (.int .u64))), (1, .one (.sl (.int .u64))), (5, .one (.v .i64))], []⟩
abbrev A144_7 : List (Nat × Shape) := []
abbrev X144_7 : List (Nat × Pat) := [(1, ⟨49, [], []⟩)]
abbrev Q144_7 : Option Pat := (some ⟨49, [(4, .one (.v .i64))], []⟩)
noncomputable def h144_7 (p173 : DenS I173 → Bool) (f173 : DenS I173 → DenS O173) {R : Type} (L : Pat.D P144_7 → Option R) (e : OutT X144_7 Q144_7 → Option R) (x : Pat.D P144_7) : Option R :=
  bif (decide (x.1.2.2.1 ≥ (0 : Int))) then
  (bif ((decide ((0 : Int) ≤ x.1.2.2.1)) && (decide (x.1.2.2.1 < (x.1.1.length : Int)))) then
  (bif ((decide ((0 : Int) ≤ x.1.2.2.1)) && (decide (x.1.2.2.1 < (x.1.2.1.length : Int)))) then
  (bif (decide ((x.1.1.getD (Int.toNat x.1.2.2.1) (0 : Int)) < (x.1.2.1.getD (Int.toNat x.1.2.2.1) (0 : Int)))) then
  ((e (.inr (((-(1 : Int)), ()), ()))))
  else bif ((decide ((0 : Int) ≤ x.1.2.2.1)) && (decide (x.1.2.2.1 < (x.1.1.length : Int)))) then
  (bif ((decide ((0 : Int) ≤ x.1.2.2.1)) && (decide (x.1.2.2.1 < (x.1.2.1.length : Int)))) then
  (bif (decide ((x.1.1.getD (Int.toNat x.1.2.2.1) (0 : Int)) > (x.1.2.1.getD (Int.toNat x.1.2.2.1) (0 : Int)))) then
  ((e (.inr (((1 : Int), ()), ()))))
  else (L ((x.1.1, (x.1.2.1, ((Go.IntKind.wrap Go.IntKind.i64 (x.1.2.2.1 - (1 : Int))), ()))), ())))
  else none)
  else none)
  else none)
  else none)
  else (e (.inl ((), ())))
theorem s144_7 (p173 : DenS I173 → Bool) (f173 : DenS I173 → DenS O173) (w144_7 : Pat.D P144_7 → Option (OutT X144_7 Q144_7)) (d : Nat) (R : Type) (L : Pat.D P144_7 → Option R) (e : OutT X144_7 Q144_7 → Option R) (x : Pat.D P144_7) :
    lStep { P := Go.Proofs.Tryd.prog, sums := [(173, ⟨I173, O173, p173, f173⟩)], loops := [(144, 7, LoopSpec.of P144_7 A144_7 X144_7 Q144_7 w144_7)], globs := G1 } (d + 2) 144 (bodyOf Go.Proofs.Tryd.f144 7) P144_7 A144_7 X144_7 Q144_7 (R := R) L e x = h144_7 p173 f173 L e x := by kernel_rfl
theorem m144_7 (p173 : DenS I173 → Bool) (f173 : DenS I173 → DenS O173) : Par fun L e x => h144_7 p173 f173 L e x := by
  intro A B rel L L' e e' h0 hL he x
  unfold h144_7
  repeat' (first | exact h0 | exact hL _ | exact he _ | apply rel_cond | (apply rel_obind h0; intro _) | (apply rel_obind2 <;> intro _))
noncomputable def t144 (p173 : DenS I173 → Bool) (f173 : DenS I173 → DenS O173) (w144_7 : Pat.D P144_7 → Option (OutT X144_7 Q144_7)) (a0 : Den (.slice (.int .u64))) (a1 : Den (.slice (.int .u64))) : Option (DenS O144) :=
  bif (p173 (a0, ())) then
  (bif (p173 (a1, ())) then
  (bif (decide (((f173 (a0, ())).1.length : Int) < ((f173 (a1, ())).1.length : Int))) then
  (some ((-(1 : Int)), ()))
  else bif (decide (((f173 (a0, ())).1.length : Int) > ((f173 (a1, ())).1.length : Int))) then
  (some ((1 : Int), ()))
  else Vx.obind (w144_7 (((f173 (a0, ())).1, ((f173 (a1, ())).1, ((Go.IntKind.wrap Go.IntKind.i64 (((f173 (a0, ())).1.length : Int) - (1 : Int))), ()))), ())) fun y4 =>
  Vx.obind2 y4 (fun y5 =>
  some ((0 : Int), ())) (fun z5 =>
  some z5.1))
  else none)
  else none
theorem r144 (p173 : DenS I173 → Bool) (f173 : DenS I173 → DenS O173) (w144_7 : Pat.D P144_7 → Option (OutT X144_7 Q144_7)) (a0 : Den (.slice (.int .u64))) (a1 : Den (.slice (.int .u64))) :
    run { P := Go.Proofs.Tryd.prog, sums := [(173, ⟨I173, O173, p173, f173⟩)], loops := [(144, 7, LoopSpec.of P144_7 A144_7 X144_7 Q144_7 w144_7)], globs := G1 } 9 144 Go.Proofs.Tryd.f144 I144 O144 (a0, a1, ()) = t144 p173 f173 w144_7 a0 a1 := by kernel_rfl
noncomputable def W144_7 : P144_7.D → Option (OutT X144_7 Q144_7) := lfix fun L => h144_7 S173.pre S173.F L some
noncomputable def T144 (x : DenS I144) : Option (DenS O144) := t144 S173.pre S173.F W144_7 x.1 x.2.1
noncomputable def C144 : Cfg := { P := Go.Proofs.Tryd.prog, sums := [(173, S173)], loops := [(144, 7, LoopSpec.of P144_7 A144_7 X144_7 Q144_7 W144_7)], globs := G1 }
noncomputable def S144 : Sum := sumOf I144 O144 T144 (DenS.dflt O144)
theorem S144_sound : Sound Go.Proofs.Tryd.prog G1 144 S144 :=
  fn_sound C144 9 144 Go.Proofs.Tryd.f144 mixedOk (by kernel_rfl) (by kernel_rfl) (by kernel_rfl) ⟨S173_sound, trivial⟩ ⟨rfl, fun d => loopOk_of (fun L e x => h144_7 S173.pre S173.F L e x) (m144_7 S173.pre S173.F) (fun R L e x => s144_7 S173.pre S173.F W144_7 d R L e x), trivial⟩ I144 O144 T144 _ fun x => r144 S173.pre S173.F W144_7 x.1 x.2.1
/-- vernier/nat.less -/
abbrev I1174 : Sig := [(true, .slice (.int .u64)), (false, .slice (.int .u64))]
abbrev O1174 : Sig := [(true, .slice (.int .u64))]
abbrev P1174_3 : Pat := ⟨37, [(9, .one (.v .i64)), (1, .one (.sl (.int .u64))), (5, .one (.v .u64)), (10, .one (.v .i64)), (0, .one (.own 0))], [.arr (.int .u64)]⟩
abbrev A1174_3 : List (Nat × Shape) := []
abbrev X1174_3 : List (Nat × Pat) := [(0, ⟨37, [(0, .one (.own 0))], [.arr (.int .u64)]⟩)]
abbrev Q1174_3 : Option Pat := none
noncomputable def h1174_3 (p1173 : DenS I1173 → Bool) (f1173 : DenS I1173 → DenS O1173) (p157 : DenS I157 → Bool) (f157 : DenS I157 → DenS O157) (p173 : DenS I173 → Bool) (f173 : DenS I173 → DenS O173) {R : Type} (L : Pat.D P1174_3 → Option R) (e : OutT X1174_3 Q1174_3 → Option R) (x : Pat.D P1174_3) : Option R :=
  bif (decide (x.1.2.2.2.1 < x.1.1)) then
  (bif (decide (x.1.2.2.2.1 < (x.1.2.1.length : Int))) then
  (bif ((decide ((0 : Int) ≤ x.1.2.2.2.1)) && (decide (x.1.2.2.2.1 < (x.1.2.1.length : Int)))) then
  (bif ((decide ((0 : Int) ≤ x.1.2.2.2.1)) && (decide (x.1.2.2.2.1 < (x.2.1.length : Int)))) then
  (bif (p157 ((x.2.1.getD (Int.toNat x.1.2.2.2.1) (0 : Int)), ((x.1.2.1.getD (Int.toNat x.1.2.2.2.1) (0 : Int)), (x.1.2.2.1, ())))) then
  (bif ((decide ((0 : Int) ≤ x.1.2.2.2.1)) && (decide (x.1.2.2.2.1 < (x.2.1.length : Int)))) then
  ((L ((x.1.1, (x.1.2.1, ((f157 ((x.2.1.getD (Int.toNat x.1.2.2.2.1) (0 : Int)), ((x.1.2.1.getD (Int.toNat x.1.2.2.2.1) (0 : Int)), (x.1.2.2.1, ())))).2.1, ((Go.IntKind.wrap Go.IntKind.i64 (x.1.2.2.2.1 + (1 : Int))), ((), ()))))), ((x.2.1.set (Int.toNat x.1.2.2.2.1) (f157 ((x.2.1.getD (Int.toNat x.1.2.2.2.1) (0 : Int)), ((x.1.2.1.getD (Int.toNat x.1.2.2.2.1) (0 : Int)), (x.1.2.2.1, ())))).1), ()))))
  else none)
  else none)
  else none)
  else none)
  else bif ((decide ((0 : Int) ≤ x.1.2.2.2.1)) && (decide (x.1.2.2.2.1 < (x.2.1.length : Int)))) then
  (bif (p157 ((x.2.1.getD (Int.toNat x.1.2.2.2.1) (0 : Int)), ((0 : Int), (x.1.2.2.1, ())))) then
  (bif ((decide ((0 : Int) ≤ x.1.2.2.2.1)) && (decide (x.1.2.2.2.1 < (x.2.1.length : Int)))) then
  ((L ((x.1.1, (x.1.2.1, ((f157 ((x.2.1.getD (Int.toNat x.1.2.2.2.1) (0 : Int)), ((0 : Int), (x.1.2.2.1, ())))).2.1, ((Go.IntKind.wrap Go.IntKind.i64 (x.1.2.2.2.1 + (1 : Int))), ((), ()))))), ((x.2.1.set (Int.toNat x.1.2.2.2.1) (f157 ((x.2.1.getD (Int.toNat x.1.2.2.2.1) (0 : Int)), ((0 : Int), (x.1.2.2.1, ())))).1), ()))))
  else none)
  else none)
  else none)
  else (e (.inl (((), ()), x.2)))
theorem s1174_3 (p1173 : DenS I1173 → Bool) (f1173 : DenS I1173 → DenS O1173) (p157 : DenS I157 → Bool) (f157 : DenS I157 → DenS O157) (p173 : DenS I173 → Bool) (f173 : DenS I173 → DenS O173) (w1174_3 : Pat.D P1174_3 → Option (OutT X1174_3 Q1174_3)) (d : Nat) (R : Type) (L : Pat.D P1174_3 → Option R) (e : OutT X1174_3 Q1174_3 → Option R) (x : Pat.D P1174_3) :
    lStep { P := Go.Proofs.Tryd.prog, sums := [(173, ⟨I1173, O1173, p1173, f1173⟩), (157, ⟨I157, O157, p157, f157⟩), (173, ⟨I173, O173, p173, f173⟩)], loops := [(174, 3, LoopSpec.of P1174_3 A1174_3 X1174_3 Q1174_3 w1174_3)], globs := G1, keep := true } (d + 2) 174 (bodyOf Go.Proofs.Tryd.f174 3) P1174_3 A1174_3 X1174_3 Q1174_3 (R := R) L e x = h1174_3 p1173 f1173 p157 f157 p173 f173 L e x := by kernel_rfl
theorem m1174_3 (p1173 : DenS I1173 → Bool) (f1173 : DenS I1173 → DenS O1173) (p157 : DenS I157 → Bool) (f157 : DenS I157 → DenS O157) (p173 : DenS I173 → Bool) (f173 : DenS I173 → DenS O173) : Par fun L e x => h1174_3 p1173 f1173 p157 f157 p173 f173 L e x := by
  intro A B rel L L' e e' h0 hL he x
  unfold h1174_3
  repeat' (first | exact h0 | exact hL _ | exact he _ | apply rel_cond | (apply rel_obind h0; intro _) | (apply rel_obind2 <;> intro _))
noncomputable def t1174 (p1173 : DenS I1173 → Bool) (f1173 : DenS I1173 → DenS O1173) (p157 : DenS I157 → Bool) (f157 : DenS I157 → DenS O157) (p173 : DenS I173 → Bool) (f173 : DenS I173 → DenS O173) (w1174_3 : Pat.D P1174_3 → Option (OutT X1174_3 Q1174_3)) (a0 : Den (.slice (.int .u64))) (a1 : Den (.slice (.int .u64))) : Option (DenS O1174) :=
  Vx.obind (w1174_3 (((a0.length : Int), (a1, ((0 : Int), ((0 : Int), ((), ()))))), (a0, ()))) fun y0 =>
  Vx.obind2 y0 (fun y1 =>
  bif (p1173 y1.2) then
  (some (f1173 y1.2))
  else none) (fun z1 =>
  none)
theorem r1174 (p1173 : DenS I1173 → Bool) (f1173 : DenS I1173 → DenS O1173) (p157 : DenS I157 → Bool) (f157 : DenS I157 → DenS O157) (p173 : DenS I173 → Bool) (f173 : DenS I173 → DenS O173) (w1174_3 : Pat.D P1174_3 → Option (OutT X1174_3 Q1174_3)) (a0 : Den (.slice (.int .u64))) (a1 : Den (.slice (.int .u64))) :
    run { P := Go.Proofs.Tryd.prog, sums := [(173, ⟨I1173, O1173, p1173, f1173⟩), (157, ⟨I157, O157, p157, f157⟩), (173, ⟨I173, O173, p173, f173⟩)], loops := [(174, 3, LoopSpec.of P1174_3 A1174_3 X1174_3 Q1174_3 w1174_3)], globs := G1, keep := true } 9 174 Go.Proofs.Tryd.f174 I1174 O1174 (a0, a1, ()) = t1174 p1173 f1173 p157 f157 p173 f173 w1174_3 a0 a1 := by kernel_rfl
noncomputable def W1174_3 : P1174_3.D → Option (OutT X1174_3 Q1174_3) := lfix fun L => h1174_3 S1173.pre S1173.F S157.pre S157.F S173.pre S173.F L some
noncomputable def T1174 (x : DenS I1174) : Option (DenS O1174) := t1174 S1173.pre S1173.F S157.pre S157.F S173.pre S173.F W1174_3 x.1 x.2.1
noncomputable def C1174 : Cfg := { P := Go.Proofs.Tryd.prog, sums := [(173, S1173), (157, S157), (173, S173)], loops := [(174, 3, LoopSpec.of P1174_3 A1174_3 X1174_3 Q1174_3 W1174_3)], globs := G1, keep := true }
noncomputable def S1174 : Sum := sumOf I1174 O1174 T1174 (DenS.dflt O1174)
theorem S1174_sound : Sound Go.Proofs.Tryd.prog G1 174 S1174 :=
  fn_sound C1174 9 174 Go.Proofs.Tryd.f174 mixedOk (by kernel_rfl) (by kernel_rfl) (by kernel_rfl) ⟨S1173_sound, ⟨S157_sound, ⟨S173_sound, trivial⟩⟩⟩ ⟨rfl, fun d => loopOk_of (fun L e x => h1174_3 S1173.pre S1173.F S157.pre S157.F S173.pre S173.F L e x) (m1174_3 S1173.pre S1173.F S157.pre S157.F S173.pre S173.F) (fun R L e x => s1174_3 S1173.pre S1173.F S157.pre S157.F S173.pre S173.F W1174_3 d R L e x), trivial⟩ I1174 O1174 T1174 _ fun x => r1174 S1173.pre S1173.F S157.pre S157.F S173.pre S173.F W1174_3 x.1 x.2.1
/-- vernier/nat.copied -/
abbrev I1146 : Sig := [(false, .slice (.int .u64))]
abbrev O1146 : Sig := [(true, .slice (.int .u64))]
noncomputable def t1146 (p173 : DenS I173 → Bool) (f173 : DenS I173 → DenS O173) (a0 : Den (.slice (.int .u64))) : Option (DenS O1146) :=
  bif (p173 (a0, ())) then
  (bif ((decide ((0 : Int) ≤ ((f173 (a0, ())).1.length : Int))) && (decide ((((f173 (a0, ())).1.length : Int) * (8 : Int)) ≤ (140737488355328 : Int)))) then
  (some ((((f173 (a0, ())).1.take (List.replicate (Int.toNat ((f173 (a0, ())).1.length : Int)) (0 : Int)).length) ++ ((List.replicate (Int.toNat ((f173 (a0, ())).1.length : Int)) (0 : Int)).drop (f173 (a0, ())).1.length)), ()))
  else none)
  else none
theorem r1146 (p173 : DenS I173 → Bool) (f173 : DenS I173 → DenS O173) (a0 : Den (.slice (.int .u64))) :
    run { P := Go.Proofs.Tryd.prog, sums := [(173, ⟨I173, O173, p173, f173⟩)], loops := [], globs := G1, keep := true } 9 146 Go.Proofs.Tryd.f146 I1146 O1146 (a0, ()) = t1146 p173 f173 a0 := by kernel_rfl
noncomputable def T1146 (x : DenS I1146) : Option (DenS O1146) := t1146 S173.pre S173.F x.1
noncomputable def C1146 : Cfg := { P := Go.Proofs.Tryd.prog, sums := [(173, S173)], loops := [], globs := G1, keep := true }
noncomputable def S1146 : Sum := sumOf I1146 O1146 T1146 (DenS.dflt O1146)
theorem S1146_sound : Sound Go.Proofs.Tryd.prog G1 146 S1146 :=
  fn_sound C1146 9 146 Go.Proofs.Tryd.f146 mixedOk (by kernel_rfl) (by kernel_rfl) (by kernel_rfl) ⟨S173_sound, trivial⟩ trivial I1146 O1146 T1146 _ fun x => r1146 S173.pre S173.F x.1
/-- vernier/nat.less -/
abbrev I174 : Sig := [(false, .slice (.int .u64)), (false, .slice (.int .u64))]
abbrev O174 : Sig := [(false, .slice (.int .u64))]
abbrev P174_3 : Pat := ⟨37, [(9, .one (.v .i64)), (1, .one (.sl (.int .u64))), (5, .one (.v .u64)), (10, .one (.v .i64)), (0, .one (.sl (.int .u64)))], []⟩
abbrev A174_3 : List (Nat × Shape) := []
abbrev X174_3 : List (Nat × Pat) := [(0, ⟨37, [(0, .one (.sl (.int .u64)))], []⟩)]
abbrev Q174_3 : Option Pat := none
noncomputable def h174_3 (p157 : DenS I157 → Bool) (f157 : DenS I157 → DenS O157) (p173 : DenS I173 → Bool) (f173 : DenS I173 → DenS O173) {R : Type} (L : Pat.D P174_3 → Option R) (e : OutT X174_3 Q174_3 → Option R) (x : Pat.D P174_3) : Option R :=
  bif (decide (x.1.2.2.2.1 < x.1.1)) then
  (bif (decide (x.1.2.2.2.1 < (x.1.2.1.length : Int))) then
  (bif ((decide ((0 : Int) ≤ x.1.2.2.2.1)) && (decide (x.1.2.2.2.1 < (x.1.2.1.length : Int)))) then
  (bif ((decide ((0 : Int) ≤ x.1.2.2.2.1)) && (decide (x.1.2.2.2.1 < (x.1.2.2.2.2.1.length : Int)))) then
  (bif (p157 ((x.1.2.2.2.2.1.getD (Int.toNat x.1.2.2.2.1) (0 : Int)), ((x.1.2.1.getD (Int.toNat x.1.2.2.2.1) (0 : Int)), (x.1.2.2.1, ())))) then
  (bif ((decide ((0 : Int) ≤ x.1.2.2.2.1)) && (decide (x.1.2.2.2.1 < (x.1.2.2.2.2.1.length : Int)))) then
              (none)
  else none)
  else none)
  else none)
  else none)
  else bif ((decide ((0 : Int) ≤ x.1.2.2.2.1)) && (decide (x.1.2.2.2.1 < (x.1.2.2.2.2.1.length : Int)))) then
  (bif (p157 ((x.1.2.2.2.2.1.getD (Int.toNat x.1.2.2.2.1) (0 : Int)), ((0 : Int), (x.1.2.2.1, ())))) then
  (bif ((decide ((0 : Int) ≤ x.1.2.2.2.1)) && (decide (x.1.2.2.2.1 < (x.1.2.2.2.2.1.length : Int)))) then
          (none)
  else none)
  else none)
  else none)
  else (e (.inl (x.1.2.2.2.2, ())))
theorem s174_3 (p157 : DenS I157 → Bool) (f157 : DenS I157 → DenS O157) (p173 : DenS I173 → Bool) (f173 : DenS I173 → DenS O173) (w174_3 : Pat.D P174_3 → Option (OutT X174_3 Q174_3)) (d : Nat) (R : Type) (L : Pat.D P174_3 → Option R) (e : OutT X174_3 Q174_3 → Option R) (x : Pat.D P174_3) :
    lStep { P := Go.Proofs.Tryd.prog, sums := [(157, ⟨I157, O157, p157, f157⟩), (173, ⟨I173, O173, p173, f173⟩)], loops := [(174, 3, LoopSpec.of P174_3 A174_3 X174_3 Q174_3 w174_3)], globs := G1 } (d + 2) 174 (bodyOf Go.Proofs.Tryd.f174 3) P174_3 A174_3 X174_3 Q174_3 (R := R) L e x = h174_3 p157 f157 p173 f173 L e x := by kernel_rfl
theorem m174_3 (p157 : DenS I157 → Bool) (f157 : DenS I157 → DenS O157) (p173 : DenS I173 → Bool) (f173 : DenS I173 → DenS O173) : Par fun L e x => h174_3 p157 f157 p173 f173 L e x := by
  intro A B rel L L' e e' h0 hL he x
  unfold h174_3
  repeat' (first | exact h0 | exact hL _ | exact he _ | apply rel_cond | (apply rel_obind h0; intro _) | (apply rel_obind2 <;> intro _))
noncomputable def t174 (p157 : DenS I157 → Bool) (f157 : DenS I157 → DenS O157) (p173 : DenS I173 → Bool) (f173 : DenS I173 → DenS O173) (w174_3 : Pat.D P174_3 → Option (OutT X174_3 Q174_3)) (a0 : Den (.slice (.int .u64))) (a1 : Den (.slice (.int .u64))) : Option (DenS O174) :=
  Vx.obind (w174_3 (((a0.length : Int), (a1, ((0 : Int), ((0 : Int), (a0, ()))))), ())) fun y0 =>
  Vx.obind2 y0 (fun y1 =>
  bif (p173 y1.1) then
  (some (f173 y1.1))
  else none) (fun z1 =>
  none)
theorem r174 (p157 : DenS I157 → Bool) (f157 : DenS I157 → DenS O157) (p173 : DenS I173 → Bool) (f173 : DenS I173 → DenS O173) (w174_3 : Pat.D P174_3 → Option (OutT X174_3 Q174_3)) (a0 : Den (.slice (.int .u64))) (a1 : Den (.slice (.int .u64))) :
    run { P := Go.Proofs.Tryd.prog, sums := [(157, ⟨I157, O157, p157, f157⟩), (173, ⟨I173, O173, p173, f173⟩)], loops := [(174, 3, LoopSpec.of P174_3 A174_3 X174_3 Q174_3 w174_3)], globs := G1 } 9 174 Go.Proofs.Tryd.f174 I174 O174 (a0, a1, ()) = t174 p157 f157 p173 f173 w174_3 a0 a1 := by kernel_rfl
noncomputable def W174_3 : P174_3.D → Option (OutT X174_3 Q174_3) := lfix fun L => h174_3 S157.pre S157.F S173.pre S173.F L some
noncomputable def T174 (x : DenS I174) : Option (DenS O174) := t174 S157.pre S157.F S173.pre S173.F W174_3 x.1 x.2.1
noncomputable def C174 : Cfg := { P := Go.Proofs.Tryd.prog, sums := [(157, S157), (173, S173)], loops := [(174, 3, LoopSpec.of P174_3 A174_3 X174_3 Q174_3 W174_3)], globs := G1 }
noncomputable def S174 : Sum := sumOf I174 O174 T174 (DenS.dflt O174)
theorem S174_sound : Sound Go.Proofs.Tryd.prog G1 174 S174 :=
  fn_sound C174 9 174 Go.Proofs.Tryd.f174 mixedOk (by kernel_rfl) (by kernel_rfl) (by kernel_rfl) ⟨S157_sound, ⟨S173_sound, trivial⟩⟩ ⟨rfl, fun d => loopOk_of (fun L e x => h174_3 S157.pre S157.F S173.pre S173.F L e x) (m174_3 S157.pre S157.F S173.pre S173.F) (fun R L e x => s174_3 S157.pre S157.F S173.pre S173.F W174_3 d R L e x), trivial⟩ I174 O174 T174 _ fun x => r174 S157.pre S157.F S173.pre S173.F W174_3 x.1 x.2.1
/-- vernier/nat.Sub -/
abbrev I145 : Sig := [(false, .slice (.int .u64)), (false, .slice (.int .u64))]
abbrev O145 : Sig := [(false, .slice (.int .u64)), (false, .int .i64)]
noncomputable def t145 (p1174 : DenS I1174 → Bool) (f1174 : DenS I1174 → DenS O1174) (p1146 : DenS I1146 → Bool) (f1146 : DenS I1146 → DenS O1146) (p144 : DenS I144 → Bool) (f144 : DenS I144 → DenS O144) (p146 : DenS I146 → Bool) (f146 : DenS I146 → DenS O146) (p173 : DenS I173 → Bool) (f173 : DenS I173 → DenS O173) (p174 : DenS I174 → Bool) (f174 : DenS I174 → DenS O174) (a0 : Den (.slice (.int .u64))) (a1 : Den (.slice (.int .u64))) : Option (DenS O145) :=
  bif (p144 (a0, (a1, ()))) then
  (bif (decide ((f144 (a0, (a1, ()))).1 < (0 : Int))) then
  (some ([], ((20 : Int), ())))
  else bif (p1146 (a0, ())) then
  (bif (p173 (a1, ())) then
  (bif (p1174 ((f1146 (a0, ())).1, (f173 (a1, ())))) then
  (some ((f1174 ((f1146 (a0, ())).1, (f173 (a1, ())))).1, ((0 : Int), ())))
  else none)
  else none)
  else none)
  else none
theorem r145 (p1174 : DenS I1174 → Bool) (f1174 : DenS I1174 → DenS O1174) (p1146 : DenS I1146 → Bool) (f1146 : DenS I1146 → DenS O1146) (p144 : DenS I144 → Bool) (f144 : DenS I144 → DenS O144) (p146 : DenS I146 → Bool) (f146 : DenS I146 → DenS O146) (p173 : DenS I173 → Bool) (f173 : DenS I173 → DenS O173) (p174 : DenS I174 → Bool) (f174 : DenS I174 → DenS O174) (a0 : Den (.slice (.int .u64))) (a1 : Den (.slice (.int .u64))) :
    run { P := Go.Proofs.Tryd.prog, sums := [(174, ⟨I1174, O1174, p1174, f1174⟩), (146, ⟨I1146, O1146, p1146, f1146⟩), (144, ⟨I144, O144, p144, f144⟩), (146, ⟨I146, O146, p146, f146⟩), (173, ⟨I173, O173, p173, f173⟩), (174, ⟨I174, O174, p174, f174⟩)], loops := [], globs := G1 } 9 145 Go.Proofs.Tryd.f145 I145 O145 (a0, a1, ()) = t145 p1174 f1174 p1146 f1146 p144 f144 p146 f146 p173 f173 p174 f174 a0 a1 := by kernel_rfl
noncomputable def T145 (x : DenS I145) : Option (DenS O145) := t145 S1174.pre S1174.F S1146.pre S1146.F S144.pre S144.F S146.pre S146.F S173.pre S173.F S174.pre S174.F x.1 x.2.1
noncomputable def C145 : Cfg := { P := Go.Proofs.Tryd.prog, sums := [(174, S1174), (146, S1146), (144, S144), (146, S146), (173, S173), (174, S174)], loops := [], globs := G1 }
noncomputable def S145 : Sum := sumOf I145 O145 T145 (DenS.dflt O145)
theorem S145_sound : Sound Go.Proofs.Tryd.prog G1 145 S145 :=
  fn_sound C145 9 145 Go.Proofs.Tryd.f145 mixedOk (by kernel_rfl) (by kernel_rfl) (by kernel_rfl) ⟨S1174_sound, ⟨S1146_sound, ⟨S144_sound, ⟨S146_sound, ⟨S173_sound, ⟨S174_sound, trivial⟩⟩⟩⟩⟩⟩ trivial I145 O145 T145 _ fun x => r145 S1174.pre S1174.F S1146.pre S1146.F S144.pre S144.F S146.pre S146.F S173.pre S173.F S174.pre S174.F x.1 x.2.1
/-- vernier/dyad.sum -/
abbrev I101 : Sig := [(true, .pair (.bool) (.pair (.slice (.int .u64)) (.pair (.int .i64) (.unit)))), (true, .pair (.bool) (.pair (.slice (.int .u64)) (.pair (.int .i64) (.unit))))]
abbrev O101 : Sig := [(true, .pair (.bool) (.pair (.slice (.int .u64)) (.pair (.int .i64) (.unit))))]
noncomputable def t101 (p142 : DenS I142 → Bool) (f142 : DenS I142 → DenS O142) (p143 : DenS I143 → Bool) (f143 : DenS I143 → DenS O143) (p144 : DenS I144 → Bool) (f144 : DenS I144 → DenS O144) (p145 : DenS I145 → Bool) (f145 : DenS I145 → DenS O145) (p100 : DenS I100 → Bool) (f100 : DenS I100 → DenS O100) (a0 : Den (.pair (.bool) (.pair (.slice (.int .u64)) (.pair (.int .i64) (.unit))))) (a1 : Den (.pair (.bool) (.pair (.slice (.int .u64)) (.pair (.int .i64) (.unit))))) : Option (DenS O101) :=
  bif ((a0.2.1.length : Int) == (0 : Int)) then
  (some ((a1.1, a1.2), ()))
  else bif ((a1.2.1.length : Int) == (0 : Int)) then
  (some ((a0.1, a0.2), ()))
  else bif (p142 ((a0.1, a0.2), ((a1.1, a1.2), ()))) then
  (bif (a0.1 == a1.1) then
  (bif (p143 ((f142 ((a0.1, a0.2), ((a1.1, a1.2), ()))).1, ((f142 ((a0.1, a0.2), ((a1.1, a1.2), ()))).2.1, ()))) then
  (bif (p100 ((a0.1, ((f143 ((f142 ((a0.1, a0.2), ((a1.1, a1.2), ()))).1, ((f142 ((a0.1, a0.2), ((a1.1, a1.2), ()))).2.1, ()))).1, (f142 ((a0.1, a0.2), ((a1.1, a1.2), ()))).2.2)), ())) then
  (some (f100 ((a0.1, ((f143 ((f142 ((a0.1, a0.2), ((a1.1, a1.2), ()))).1, ((f142 ((a0.1, a0.2), ((a1.1, a1.2), ()))).2.1, ()))).1, (f142 ((a0.1, a0.2), ((a1.1, a1.2), ()))).2.2)), ())))
  else none)
  else none)
  else bif (p144 ((f142 ((a0.1, a0.2), ((a1.1, a1.2), ()))).1, ((f142 ((a0.1, a0.2), ((a1.1, a1.2), ()))).2.1, ()))) then
  (bif (decide ((f144 ((f142 ((a0.1, a0.2), ((a1.1, a1.2), ()))).1, ((f142 ((a0.1, a0.2), ((a1.1, a1.2), ()))).2.1, ()))).1 < (0 : Int))) then
  (bif (p145 ((f142 ((a0.1, a0.2), ((a1.1, a1.2), ()))).2.1, ((f142 ((a0.1, a0.2), ((a1.1, a1.2), ()))).1, ()))) then
  (bif (p100 ((a1.1, ((f145 ((f142 ((a0.1, a0.2), ((a1.1, a1.2), ()))).2.1, ((f142 ((a0.1, a0.2), ((a1.1, a1.2), ()))).1, ()))).1, (f142 ((a0.1, a0.2), ((a1.1, a1.2), ()))).2.2)), ())) then
  (some (f100 ((a1.1, ((f145 ((f142 ((a0.1, a0.2), ((a1.1, a1.2), ()))).2.1, ((f142 ((a0.1, a0.2), ((a1.1, a1.2), ()))).1, ()))).1, (f142 ((a0.1, a0.2), ((a1.1, a1.2), ()))).2.2)), ())))
  else none)
  else none)
  else bif (p145 ((f142 ((a0.1, a0.2), ((a1.1, a1.2), ()))).1, ((f142 ((a0.1, a0.2), ((a1.1, a1.2), ()))).2.1, ()))) then
  (bif (p100 ((a0.1, ((f145 ((f142 ((a0.1, a0.2), ((a1.1, a1.2), ()))).1, ((f142 ((a0.1, a0.2), ((a1.1, a1.2), ()))).2.1, ()))).1, (f142 ((a0.1, a0.2), ((a1.1, a1.2), ()))).2.2)), ())) then
  (some (f100 ((a0.1, ((f145 ((f142 ((a0.1, a0.2), ((a1.1, a1.2), ()))).1, ((f142 ((a0.1, a0.2), ((a1.1, a1.2), ()))).2.1, ()))).1, (f142 ((a0.1, a0.2), ((a1.1, a1.2), ()))).2.2)), ())))
  else none)
  else none)
  else none)
  else none
theorem r101 (p142 : DenS I142 → Bool) (f142 : DenS I142 → DenS O142) (p143 : DenS I143 → Bool) (f143 : DenS I143 → DenS O143) (p144 : DenS I144 → Bool) (f144 : DenS I144 → DenS O144) (p145 : DenS I145 → Bool) (f145 : DenS I145 → DenS O145) (p100 : DenS I100 → Bool) (f100 : DenS I100 → DenS O100) (a0 : Den (.pair (.bool) (.pair (.slice (.int .u64)) (.pair (.int .i64) (.unit))))) (a1 : Den (.pair (.bool) (.pair (.slice (.int .u64)) (.pair (.int .i64) (.unit))))) :
    run { P := Go.Proofs.Tryd.prog, sums := [(142, ⟨I142, O142, p142, f142⟩), (143, ⟨I143, O143, p143, f143⟩), (144, ⟨I144, O144, p144, f144⟩), (145, ⟨I145, O145, p145, f145⟩), (100, ⟨I100, O100, p100, f100⟩)], loops := [], globs := G1 } 9 101 Go.Proofs.Tryd.f101 I101 O101 (a0, a1, ()) = t101 p142 f142 p143 f143 p144 f144 p145 f145 p100 f100 a0 a1 := by kernel_rfl
noncomputable def T101 (x : DenS I101) : Option (DenS O101) := t101 S142.pre S142.F S143.pre S143.F S144.pre S144.F S145.pre S145.F S100.pre S100.F x.1 x.2.1
noncomputable def C101 : Cfg := { P := Go.Proofs.Tryd.prog, sums := [(142, S142), (143, S143), (144, S144), (145, S145), (100, S100)], loops := [], globs := G1 }
noncomputable def S101 : Sum := sumOf I101 O101 T101 (DenS.dflt O101)
theorem S101_sound : Sound Go.Proofs.Tryd.prog G1 101 S101 :=
  fn_sound C101 9 101 Go.Proofs.Tryd.f101 mixedOk (by kernel_rfl) (by kernel_rfl) (by kernel_rfl) ⟨S142_sound, ⟨S143_sound, ⟨S144_sound, ⟨S145_sound, ⟨S100_sound, trivial⟩⟩⟩⟩⟩ trivial I101 O101 T101 _ fun x => r101 S142.pre S142.F S143.pre S143.F S144.pre S144.F S145.pre S145.F S100.pre S100.F x.1 x.2.1
/-- vernier/dyad.answer -/
abbrev I104 : Sig := [(true, .pair (.bool) (.pair (.slice (.int .u64)) (.pair (.int .i64) (.unit))))]
abbrev O104 : Sig := [(true, .pair (.bool) (.pair (.slice (.int .u64)) (.pair (.int .i64) (.unit)))), (false, .int .i64)]
noncomputable def t104 (p100 : DenS I100 → Bool) (f100 : DenS I100 → DenS O100) (a0 : Den (.pair (.bool) (.pair (.slice (.int .u64)) (.pair (.int .i64) (.unit))))) : Option (DenS O104) :=
  bif (p100 ((a0.1, a0.2), ())) then
  (bif (decide (((f100 ((a0.1, a0.2), ())).1.2.1.length : Int) > (1024 : Int))) then
  (some ((false, ([], ((0 : Int), ()))), ((5 : Int), ())))
  else bif ((decide ((f100 ((a0.1, a0.2), ())).1.2.2.1 < (-(40000 : Int)))) || (decide ((f100 ((a0.1, a0.2), ())).1.2.2.1 > (40000 : Int)))) then
  (some ((false, ([], ((0 : Int), ()))), ((30 : Int), ())))
  else some ((f100 ((a0.1, a0.2), ())).1, ((0 : Int), ())))
  else none
theorem r104 (p100 : DenS I100 → Bool) (f100 : DenS I100 → DenS O100) (a0 : Den (.pair (.bool) (.pair (.slice (.int .u64)) (.pair (.int .i64) (.unit))))) :
    run { P := Go.Proofs.Tryd.prog, sums := [(100, ⟨I100, O100, p100, f100⟩)], loops := [], globs := G1 } 9 104 Go.Proofs.Tryd.f104 I104 O104 (a0, ()) = t104 p100 f100 a0 := by kernel_rfl
noncomputable def T104 (x : DenS I104) : Option (DenS O104) := t104 S100.pre S100.F x.1
noncomputable def C104 : Cfg := { P := Go.Proofs.Tryd.prog, sums := [(100, S100)], loops := [], globs := G1 }
noncomputable def S104 : Sum := sumOf I104 O104 T104 (DenS.dflt O104)
theorem S104_sound : Sound Go.Proofs.Tryd.prog G1 104 S104 :=
  fn_sound C104 9 104 Go.Proofs.Tryd.f104 mixedOk (by kernel_rfl) (by kernel_rfl) (by kernel_rfl) ⟨S100_sound, trivial⟩ trivial I104 O104 T104 _ fun x => r104 S100.pre S100.F x.1
/-- vernier/dyad.Add -/
abbrev I49 : Sig := [(true, .pair (.bool) (.pair (.slice (.int .u64)) (.pair (.int .i64) (.unit)))), (true, .pair (.bool) (.pair (.slice (.int .u64)) (.pair (.int .i64) (.unit))))]
abbrev O49 : Sig := [(true, .pair (.bool) (.pair (.slice (.int .u64)) (.pair (.int .i64) (.unit)))), (false, .int .i64)]
noncomputable def t49 (p99 : DenS I99 → Bool) (f99 : DenS I99 → DenS O99) (p100 : DenS I100 → Bool) (f100 : DenS I100 → DenS O100) (p101 : DenS I101 → Bool) (f101 : DenS I101 → DenS O101) (p104 : DenS I104 → Bool) (f104 : DenS I104 → DenS O104) (a0 : Den (.pair (.bool) (.pair (.slice (.int .u64)) (.pair (.int .i64) (.unit))))) (a1 : Den (.pair (.bool) (.pair (.slice (.int .u64)) (.pair (.int .i64) (.unit))))) : Option (DenS O49) :=
  bif (p99 ((a0.1, a0.2), ((a1.1, a1.2), ()))) then
  (bif ((f99 ((a0.1, a0.2), ((a1.1, a1.2), ()))).1 != (0 : Int)) then
  (some ((false, ([], ((0 : Int), ()))), (f99 ((a0.1, a0.2), ((a1.1, a1.2), ())))))
  else bif (p100 ((a0.1, a0.2), ())) then
  (bif (p100 ((a1.1, a1.2), ())) then
  (bif (p101 ((f100 ((a0.1, a0.2), ())).1, (f100 ((a1.1, a1.2), ())))) then
  (bif (p104 (f101 ((f100 ((a0.1, a0.2), ())).1, (f100 ((a1.1, a1.2), ()))))) then
  (some (f104 (f101 ((f100 ((a0.1, a0.2), ())).1, (f100 ((a1.1, a1.2), ()))))))
  else none)
  else none)
  else none)
  else none)
  else none
theorem r49 (p99 : DenS I99 → Bool) (f99 : DenS I99 → DenS O99) (p100 : DenS I100 → Bool) (f100 : DenS I100 → DenS O100) (p101 : DenS I101 → Bool) (f101 : DenS I101 → DenS O101) (p104 : DenS I104 → Bool) (f104 : DenS I104 → DenS O104) (a0 : Den (.pair (.bool) (.pair (.slice (.int .u64)) (.pair (.int .i64) (.unit))))) (a1 : Den (.pair (.bool) (.pair (.slice (.int .u64)) (.pair (.int .i64) (.unit))))) :
    run { P := Go.Proofs.Tryd.prog, sums := [(99, ⟨I99, O99, p99, f99⟩), (100, ⟨I100, O100, p100, f100⟩), (101, ⟨I101, O101, p101, f101⟩), (104, ⟨I104, O104, p104, f104⟩)], loops := [], globs := G1 } 9 49 Go.Proofs.Tryd.f49 I49 O49 (a0, a1, ()) = t49 p99 f99 p100 f100 p101 f101 p104 f104 a0 a1 := by kernel_rfl
noncomputable def T49 (x : DenS I49) : Option (DenS O49) := t49 S99.pre S99.F S100.pre S100.F S101.pre S101.F S104.pre S104.F x.1 x.2.1
noncomputable def C49 : Cfg := { P := Go.Proofs.Tryd.prog, sums := [(99, S99), (100, S100), (101, S101), (104, S104)], loops := [], globs := G1 }
noncomputable def S49 : Sum := sumOf I49 O49 T49 (DenS.dflt O49)
theorem S49_sound : Sound Go.Proofs.Tryd.prog G1 49 S49 :=
  fn_sound C49 9 49 Go.Proofs.Tryd.f49 mixedOk (by kernel_rfl) (by kernel_rfl) (by kernel_rfl) ⟨S99_sound, ⟨S100_sound, ⟨S101_sound, ⟨S104_sound, trivial⟩⟩⟩⟩ trivial I49 O49 T49 _ fun x => r49 S99.pre S99.F S100.pre S100.F S101.pre S101.F S104.pre S104.F x.1 x.2.1
/-- vernier/dyad.Sign -/
abbrev I47 : Sig := [(true, .pair (.bool) (.pair (.slice (.int .u64)) (.pair (.int .i64) (.unit))))]
abbrev O47 : Sig := [(false, .int .i64)]
noncomputable def t47 (p102 : DenS I102 → Bool) (f102 : DenS I102 → DenS O102) (a0 : Den (.pair (.bool) (.pair (.slice (.int .u64)) (.pair (.int .i64) (.unit))))) : Option (DenS O47) :=
  bif (p102 (a0.2.1, ())) then
  (bif (((f102 (a0.2.1, ())).1.length : Int) == (0 : Int)) then
  (some ((0 : Int), ()))
  else bif a0.1 then
  (some ((-(1 : Int)), ()))
  else some ((1 : Int), ()))
  else none
theorem r47 (p102 : DenS I102 → Bool) (f102 : DenS I102 → DenS O102) (a0 : Den (.pair (.bool) (.pair (.slice (.int .u64)) (.pair (.int .i64) (.unit))))) :
    run { P := Go.Proofs.Tryd.prog, sums := [(102, ⟨I102, O102, p102, f102⟩)], loops := [], globs := G1 } 9 47 Go.Proofs.Tryd.f47 I47 O47 (a0, ()) = t47 p102 f102 a0 := by kernel_rfl
noncomputable def T47 (x : DenS I47) : Option (DenS O47) := t47 S102.pre S102.F x.1
noncomputable def C47 : Cfg := { P := Go.Proofs.Tryd.prog, sums := [(102, S102)], loops := [], globs := G1 }
noncomputable def S47 : Sum := sumOf I47 O47 T47 (DenS.dflt O47)
theorem S47_sound : Sound Go.Proofs.Tryd.prog G1 47 S47 :=
  fn_sound C47 9 47 Go.Proofs.Tryd.f47 mixedOk (by kernel_rfl) (by kernel_rfl) (by kernel_rfl) ⟨S102_sound, trivial⟩ trivial I47 O47 T47 _ fun x => r47 S102.pre S102.F x.1
/-- vernier/dyad.Sub -/
abbrev I44 : Sig := [(true, .pair (.bool) (.pair (.slice (.int .u64)) (.pair (.int .i64) (.unit)))), (true, .pair (.bool) (.pair (.slice (.int .u64)) (.pair (.int .i64) (.unit))))]
abbrev O44 : Sig := [(true, .pair (.bool) (.pair (.slice (.int .u64)) (.pair (.int .i64) (.unit)))), (false, .int .i64)]
noncomputable def t44 (p49 : DenS I49 → Bool) (f49 : DenS I49 → DenS O49) (a0 : Den (.pair (.bool) (.pair (.slice (.int .u64)) (.pair (.int .i64) (.unit))))) (a1 : Den (.pair (.bool) (.pair (.slice (.int .u64)) (.pair (.int .i64) (.unit))))) : Option (DenS O44) :=
  bif (p49 ((a0.1, a0.2), (((!a1.1), a1.2), ()))) then
  (some (f49 ((a0.1, a0.2), (((!a1.1), a1.2), ()))))
  else none
theorem r44 (p49 : DenS I49 → Bool) (f49 : DenS I49 → DenS O49) (a0 : Den (.pair (.bool) (.pair (.slice (.int .u64)) (.pair (.int .i64) (.unit))))) (a1 : Den (.pair (.bool) (.pair (.slice (.int .u64)) (.pair (.int .i64) (.unit))))) :
    run { P := Go.Proofs.Tryd.prog, sums := [(49, ⟨I49, O49, p49, f49⟩)], loops := [], globs := G1 } 9 44 Go.Proofs.Tryd.f44 I44 O44 (a0, a1, ()) = t44 p49 f49 a0 a1 := by kernel_rfl
noncomputable def T44 (x : DenS I44) : Option (DenS O44) := t44 S49.pre S49.F x.1 x.2.1
noncomputable def C44 : Cfg := { P := Go.Proofs.Tryd.prog, sums := [(49, S49)], loops := [], globs := G1 }
noncomputable def S44 : Sum := sumOf I44 O44 T44 (DenS.dflt O44)
theorem S44_sound : Sound Go.Proofs.Tryd.prog G1 44 S44 :=
  fn_sound C44 9 44 Go.Proofs.Tryd.f44 mixedOk (by kernel_rfl) (by kernel_rfl) (by kernel_rfl) ⟨S49_sound, trivial⟩ trivial I44 O44 T44 _ fun x => r44 S49.pre S49.F x.1 x.2.1
/-- vernier/dyad.Neg -/
abbrev I48 : Sig := [(true, .pair (.bool) (.pair (.slice (.int .u64)) (.pair (.int .i64) (.unit))))]
abbrev O48 : Sig := [(true, .pair (.bool) (.pair (.slice (.int .u64)) (.pair (.int .i64) (.unit)))), (false, .int .i64)]
noncomputable def t48 (p103 : DenS I103 → Bool) (f103 : DenS I103 → DenS O103) (p104 : DenS I104 → Bool) (f104 : DenS I104 → DenS O104) (a0 : Den (.pair (.bool) (.pair (.slice (.int .u64)) (.pair (.int .i64) (.unit))))) : Option (DenS O48) :=
  bif (p103 ((a0.1, a0.2), ())) then
  (bif ((f103 ((a0.1, a0.2), ())).1 != (0 : Int)) then
  (some ((false, ([], ((0 : Int), ()))), (f103 ((a0.1, a0.2), ()))))
  else bif (p104 (((!a0.1), a0.2), ())) then
  (some (f104 (((!a0.1), a0.2), ())))
  else none)
  else none
theorem r48 (p103 : DenS I103 → Bool) (f103 : DenS I103 → DenS O103) (p104 : DenS I104 → Bool) (f104 : DenS I104 → DenS O104) (a0 : Den (.pair (.bool) (.pair (.slice (.int .u64)) (.pair (.int .i64) (.unit))))) :
    run { P := Go.Proofs.Tryd.prog, sums := [(103, ⟨I103, O103, p103, f103⟩), (104, ⟨I104, O104, p104, f104⟩)], loops := [], globs := G1 } 9 48 Go.Proofs.Tryd.f48 I48 O48 (a0, ()) = t48 p103 f103 p104 f104 a0 := by kernel_rfl
noncomputable def T48 (x : DenS I48) : Option (DenS O48) := t48 S103.pre S103.F S104.pre S104.F x.1
noncomputable def C48 : Cfg := { P := Go.Proofs.Tryd.prog, sums := [(103, S103), (104, S104)], loops := [], globs := G1 }
noncomputable def S48 : Sum := sumOf I48 O48 T48 (DenS.dflt O48)
theorem S48_sound : Sound Go.Proofs.Tryd.prog G1 48 S48 :=
  fn_sound C48 9 48 Go.Proofs.Tryd.f48 mixedOk (by kernel_rfl) (by kernel_rfl) (by kernel_rfl) ⟨S103_sound, ⟨S104_sound, trivial⟩⟩ trivial I48 O48 T48 _ fun x => r48 S103.pre S103.F S104.pre S104.F x.1
/-- vernier/dyad.Cmp -/
abbrev I46 : Sig := [(true, .pair (.bool) (.pair (.slice (.int .u64)) (.pair (.int .i64) (.unit)))), (true, .pair (.bool) (.pair (.slice (.int .u64)) (.pair (.int .i64) (.unit))))]
abbrev O46 : Sig := [(false, .int .i64), (false, .int .i64)]
noncomputable def t46 (p99 : DenS I99 → Bool) (f99 : DenS I99 → DenS O99) (p100 : DenS I100 → Bool) (f100 : DenS I100 → DenS O100) (p101 : DenS I101 → Bool) (f101 : DenS I101 → DenS O101) (p47 : DenS I47 → Bool) (f47 : DenS I47 → DenS O47) (a0 : Den (.pair (.bool) (.pair (.slice (.int .u64)) (.pair (.int .i64) (.unit))))) (a1 : Den (.pair (.bool) (.pair (.slice (.int .u64)) (.pair (.int .i64) (.unit))))) : Option (DenS O46) :=
  bif (p99 ((a0.1, a0.2), ((a1.1, a1.2), ()))) then
  (bif ((f99 ((a0.1, a0.2), ((a1.1, a1.2), ()))).1 != (0 : Int)) then
  (some ((0 : Int), (f99 ((a0.1, a0.2), ((a1.1, a1.2), ())))))
  else bif (p100 ((a1.1, a1.2), ())) then
  (bif (p100 ((a0.1, a0.2), ())) then
  (bif (p101 ((f100 ((a0.1, a0.2), ())).1, (((!(f100 ((a1.1, a1.2), ())).1.1), (f100 ((a1.1, a1.2), ())).1.2), ()))) then
  (bif (p47 (f101 ((f100 ((a0.1, a0.2), ())).1, (((!(f100 ((a1.1, a1.2), ())).1.1), (f100 ((a1.1, a1.2), ())).1.2), ())))) then
  (some ((f47 (f101 ((f100 ((a0.1, a0.2), ())).1, (((!(f100 ((a1.1, a1.2), ())).1.1), (f100 ((a1.1, a1.2), ())).1.2), ())))).1, ((0 : Int), ())))
  else none)
  else none)
  else none)
  else none)
  else none
theorem r46 (p99 : DenS I99 → Bool) (f99 : DenS I99 → DenS O99) (p100 : DenS I100 → Bool) (f100 : DenS I100 → DenS O100) (p101 : DenS I101 → Bool) (f101 : DenS I101 → DenS O101) (p47 : DenS I47 → Bool) (f47 : DenS I47 → DenS O47) (a0 : Den (.pair (.bool) (.pair (.slice (.int .u64)) (.pair (.int .i64) (.unit))))) (a1 : Den (.pair (.bool) (.pair (.slice (.int .u64)) (.pair (.int .i64) (.unit))))) :
    run { P := Go.Proofs.Tryd.prog, sums := [(99, ⟨I99, O99, p99, f99⟩), (100, ⟨I100, O100, p100, f100⟩), (101, ⟨I101, O101, p101, f101⟩), (47, ⟨I47, O47, p47, f47⟩)], loops := [], globs := G1 } 9 46 Go.Proofs.Tryd.f46 I46 O46 (a0, a1, ()) = t46 p99 f99 p100 f100 p101 f101 p47 f47 a0 a1 := by kernel_rfl
noncomputable def T46 (x : DenS I46) : Option (DenS O46) := t46 S99.pre S99.F S100.pre S100.F S101.pre S101.F S47.pre S47.F x.1 x.2.1
noncomputable def C46 : Cfg := { P := Go.Proofs.Tryd.prog, sums := [(99, S99), (100, S100), (101, S101), (47, S47)], loops := [], globs := G1 }
noncomputable def S46 : Sum := sumOf I46 O46 T46 (DenS.dflt O46)
theorem S46_sound : Sound Go.Proofs.Tryd.prog G1 46 S46 :=
  fn_sound C46 9 46 Go.Proofs.Tryd.f46 mixedOk (by kernel_rfl) (by kernel_rfl) (by kernel_rfl) ⟨S99_sound, ⟨S100_sound, ⟨S101_sound, ⟨S47_sound, trivial⟩⟩⟩⟩ trivial I46 O46 T46 _ fun x => r46 S99.pre S99.F S100.pre S100.F S101.pre S101.F S47.pre S47.F x.1 x.2.1
/-- vernier/vernierlaw06.AddsubClose -/
abbrev I12 : Sig := [(true, .pair (.int .i64) (.pair (.int .i64) (.pair (.int .u64) (.pair (.int .u64) (.pair (.int .u64) (.unit))))))]
abbrev O12 : Sig := [(false, .bool)]
noncomputable def t12 (p24 : DenS I24 → Bool) (f24 : DenS I24 → DenS O24) (p29 : DenS I29 → Bool) (f29 : DenS I29 → DenS O29) (p44 : DenS I44 → Bool) (f44 : DenS I44 → DenS O44) (p47 : DenS I47 → Bool) (f47 : DenS I47 → DenS O47) (p48 : DenS I48 → Bool) (f48 : DenS I48 → DenS O48) (p31 : DenS I31 → Bool) (f31 : DenS I31 → DenS O31) (p36 : DenS I36 → Bool) (f36 : DenS I36 → DenS O36) (p40 : DenS I40 → Bool) (f40 : DenS I40 → DenS O40) (p49 : DenS I49 → Bool) (f49 : DenS I49 → DenS O49) (p50 : DenS I50 → Bool) (f50 : DenS I50 → DenS O50) (p46 : DenS I46 → Bool) (f46 : DenS I46 → DenS O46) (a0 : Den (.pair (.int .i64) (.pair (.int .i64) (.pair (.int .u64) (.pair (.int .u64) (.pair (.int .u64) (.unit))))))) : Option (DenS O12) :=
  bif (p24 ()) then
  (bif (!(f24 ()).1) then
  (some (false, ()))
  else bif (p29 ((a0.1, a0.2), ())) then
  (bif (p36 ((f29 ((a0.1, a0.2), ())).1.1, ((f29 ((a0.1, a0.2), ())).1.2.2.1, ()))) then
  (bif ((p36 ((f29 ((a0.1, a0.2), ())).1.1, ((f29 ((a0.1, a0.2), ())).1.2.2.2.1, ()))) || (!(bif (!(f36 ((f29 ((a0.1, a0.2), ())).1.1, ((f29 ((a0.1, a0.2), ())).1.2.2.1, ()))).1) then false else true))) then
  (bif ((!(f36 ((f29 ((a0.1, a0.2), ())).1.1, ((f29 ((a0.1, a0.2), ())).1.2.2.1, ()))).1) || (!(f36 ((f29 ((a0.1, a0.2), ())).1.1, ((f29 ((a0.1, a0.2), ())).1.2.2.2.1, ()))).1)) then
  (some (true, ()))
  else bif (p40 ((f29 ((a0.1, a0.2), ())).1.1, ((f29 ((a0.1, a0.2), ())).1.2.2.1, ()))) then
  (bif (p40 ((f29 ((a0.1, a0.2), ())).1.1, ((f29 ((a0.1, a0.2), ())).1.2.2.2.1, ()))) then
  (bif ((p47 ((f40 ((f29 ((a0.1, a0.2), ())).1.1, ((f29 ((a0.1, a0.2), ())).1.2.2.1, ()))).1, ())) || (!(bif (((f40 ((f29 ((a0.1, a0.2), ())).1.1, ((f29 ((a0.1, a0.2), ())).1.2.2.1, ()))).2.1 != (0 : Int)) || ((f40 ((f29 ((a0.1, a0.2), ())).1.1, ((f29 ((a0.1, a0.2), ())).1.2.2.2.1, ()))).2.1 != (0 : Int))) then false else true))) then
  (bif ((p47 ((f40 ((f29 ((a0.1, a0.2), ())).1.1, ((f29 ((a0.1, a0.2), ())).1.2.2.2.1, ()))).1, ())) || (!(bif (((f40 ((f29 ((a0.1, a0.2), ())).1.1, ((f29 ((a0.1, a0.2), ())).1.2.2.1, ()))).2.1 != (0 : Int)) || ((f40 ((f29 ((a0.1, a0.2), ())).1.1, ((f29 ((a0.1, a0.2), ())).1.2.2.2.1, ()))).2.1 != (0 : Int))) then false else true))) then
  (bif ((((f40 ((f29 ((a0.1, a0.2), ())).1.1, ((f29 ((a0.1, a0.2), ())).1.2.2.1, ()))).2.1 != (0 : Int)) || ((f40 ((f29 ((a0.1, a0.2), ())).1.1, ((f29 ((a0.1, a0.2), ())).1.2.2.2.1, ()))).2.1 != (0 : Int))) || ((f47 ((f40 ((f29 ((a0.1, a0.2), ())).1.1, ((f29 ((a0.1, a0.2), ())).1.2.2.1, ()))).1, ())).1 != (f47 ((f40 ((f29 ((a0.1, a0.2), ())).1.1, ((f29 ((a0.1, a0.2), ())).1.2.2.2.1, ()))).1, ())).1)) then
  (some ((((f40 ((f29 ((a0.1, a0.2), ())).1.1, ((f29 ((a0.1, a0.2), ())).1.2.2.1, ()))).2.1 == (0 : Int)) && ((f40 ((f29 ((a0.1, a0.2), ())).1.1, ((f29 ((a0.1, a0.2), ())).1.2.2.2.1, ()))).2.1 == (0 : Int))), ()))
  else bif (p44 ((f40 ((f29 ((a0.1, a0.2), ())).1.1, ((f29 ((a0.1, a0.2), ())).1.2.2.1, ()))).1, ((f40 ((f29 ((a0.1, a0.2), ())).1.1, ((f29 ((a0.1, a0.2), ())).1.2.2.2.1, ()))).1, ()))) then
  (bif (p48 ((f44 ((f40 ((f29 ((a0.1, a0.2), ())).1.1, ((f29 ((a0.1, a0.2), ())).1.2.2.1, ()))).1, ((f40 ((f29 ((a0.1, a0.2), ())).1.1, ((f29 ((a0.1, a0.2), ())).1.2.2.2.1, ()))).1, ()))).1, ())) then
  (bif (((f44 ((f40 ((f29 ((a0.1, a0.2), ())).1.1, ((f29 ((a0.1, a0.2), ())).1.2.2.1, ()))).1, ((f40 ((f29 ((a0.1, a0.2), ())).1.1, ((f29 ((a0.1, a0.2), ())).1.2.2.2.1, ()))).1, ()))).2.1 != (0 : Int)) || ((f48 ((f44 ((f40 ((f29 ((a0.1, a0.2), ())).1.1, ((f29 ((a0.1, a0.2), ())).1.2.2.1, ()))).1, ((f40 ((f29 ((a0.1, a0.2), ())).1.1, ((f29 ((a0.1, a0.2), ())).1.2.2.2.1, ()))).1, ()))).1, ())).2.1 != (0 : Int))) then
  (some (false, ()))
  else bif (p47 ((f40 ((f29 ((a0.1, a0.2), ())).1.1, ((f29 ((a0.1, a0.2), ())).1.2.2.1, ()))).1, ())) then
  (bif (decide ((f47 ((f40 ((f29 ((a0.1, a0.2), ())).1.1, ((f29 ((a0.1, a0.2), ())).1.2.2.1, ()))).1, ())).1 < (0 : Int))) then
  (bif (p48 ((f40 ((f29 ((a0.1, a0.2), ())).1.1, ((f29 ((a0.1, a0.2), ())).1.2.2.1, ()))).1, ())) then
  (bif (p48 ((f40 ((f29 ((a0.1, a0.2), ())).1.1, ((f29 ((a0.1, a0.2), ())).1.2.2.2.1, ()))).1, ())) then
  (bif (p46 ((f48 ((f44 ((f40 ((f29 ((a0.1, a0.2), ())).1.1, ((f29 ((a0.1, a0.2), ())).1.2.2.1, ()))).1, ((f40 ((f29 ((a0.1, a0.2), ())).1.1, ((f29 ((a0.1, a0.2), ())).1.2.2.2.1, ()))).1, ()))).1, ())).1, ((f48 ((f40 ((f29 ((a0.1, a0.2), ())).1.1, ((f29 ((a0.1, a0.2), ())).1.2.2.2.1, ()))).1, ())).1, ()))) then
  (bif (p46 ((f44 ((f40 ((f29 ((a0.1, a0.2), ())).1.1, ((f29 ((a0.1, a0.2), ())).1.2.2.1, ()))).1, ((f40 ((f29 ((a0.1, a0.2), ())).1.1, ((f29 ((a0.1, a0.2), ())).1.2.2.2.1, ()))).1, ()))).1, ((f48 ((f40 ((f29 ((a0.1, a0.2), ())).1.1, ((f29 ((a0.1, a0.2), ())).1.2.2.1, ()))).1, ())).1, ()))) then
  (bif (((((f48 ((f40 ((f29 ((a0.1, a0.2), ())).1.1, ((f29 ((a0.1, a0.2), ())).1.2.2.1, ()))).1, ())).2.1 != (0 : Int)) || ((f48 ((f40 ((f29 ((a0.1, a0.2), ())).1.1, ((f29 ((a0.1, a0.2), ())).1.2.2.2.1, ()))).1, ())).2.1 != (0 : Int))) || ((f46 ((f48 ((f44 ((f40 ((f29 ((a0.1, a0.2), ())).1.1, ((f29 ((a0.1, a0.2), ())).1.2.2.1, ()))).1, ((f40 ((f29 ((a0.1, a0.2), ())).1.1, ((f29 ((a0.1, a0.2), ())).1.2.2.2.1, ()))).1, ()))).1, ())).1, ((f48 ((f40 ((f29 ((a0.1, a0.2), ())).1.1, ((f29 ((a0.1, a0.2), ())).1.2.2.2.1, ()))).1, ())).1, ()))).2.1 != (0 : Int))) || ((f46 ((f44 ((f40 ((f29 ((a0.1, a0.2), ())).1.1, ((f29 ((a0.1, a0.2), ())).1.2.2.1, ()))).1, ((f40 ((f29 ((a0.1, a0.2), ())).1.1, ((f29 ((a0.1, a0.2), ())).1.2.2.2.1, ()))).1, ()))).1, ((f48 ((f40 ((f29 ((a0.1, a0.2), ())).1.1, ((f29 ((a0.1, a0.2), ())).1.2.2.1, ()))).1, ())).1, ()))).2.1 != (0 : Int))) then
  (some (false, ()))
  else bif ((decide ((f46 ((f48 ((f44 ((f40 ((f29 ((a0.1, a0.2), ())).1.1, ((f29 ((a0.1, a0.2), ())).1.2.2.1, ()))).1, ((f40 ((f29 ((a0.1, a0.2), ())).1.1, ((f29 ((a0.1, a0.2), ())).1.2.2.2.1, ()))).1, ()))).1, ())).1, ((f48 ((f40 ((f29 ((a0.1, a0.2), ())).1.1, ((f29 ((a0.1, a0.2), ())).1.2.2.2.1, ()))).1, ())).1, ()))).1 > (0 : Int))) || (decide ((f46 ((f44 ((f40 ((f29 ((a0.1, a0.2), ())).1.1, ((f29 ((a0.1, a0.2), ())).1.2.2.1, ()))).1, ((f40 ((f29 ((a0.1, a0.2), ())).1.1, ((f29 ((a0.1, a0.2), ())).1.2.2.2.1, ()))).1, ()))).1, ((f48 ((f40 ((f29 ((a0.1, a0.2), ())).1.1, ((f29 ((a0.1, a0.2), ())).1.2.2.1, ()))).1, ())).1, ()))).1 > (0 : Int)))) then
  (some (true, ()))
  else bif (p31 ((f29 ((a0.1, a0.2), ())).1.1, ((f29 ((a0.1, a0.2), ())).1.2.1, ((f29 ((a0.1, a0.2), ())).1.2.2.1, ((f29 ((a0.1, a0.2), ())).1.2.2.2.1, ()))))) then
  (bif ((p36 ((f29 ((a0.1, a0.2), ())).1.1, ((f31 ((f29 ((a0.1, a0.2), ())).1.1, ((f29 ((a0.1, a0.2), ())).1.2.1, ((f29 ((a0.1, a0.2), ())).1.2.2.1, ((f29 ((a0.1, a0.2), ())).1.2.2.2.1, ()))))).1, ()))) || (!(bif ((!(f31 ((f29 ((a0.1, a0.2), ())).1.1, ((f29 ((a0.1, a0.2), ())).1.2.1, ((f29 ((a0.1, a0.2), ())).1.2.2.1, ((f29 ((a0.1, a0.2), ())).1.2.2.2.1, ()))))).2.2.1) || ((f31 ((f29 ((a0.1, a0.2), ())).1.1, ((f29 ((a0.1, a0.2), ())).1.2.1, ((f29 ((a0.1, a0.2), ())).1.2.2.1, ((f29 ((a0.1, a0.2), ())).1.2.2.2.1, ()))))).2.1 != (0 : Int))) then false else true))) then
  (bif (((!(f31 ((f29 ((a0.1, a0.2), ())).1.1, ((f29 ((a0.1, a0.2), ())).1.2.1, ((f29 ((a0.1, a0.2), ())).1.2.2.1, ((f29 ((a0.1, a0.2), ())).1.2.2.2.1, ()))))).2.2.1) || ((f31 ((f29 ((a0.1, a0.2), ())).1.1, ((f29 ((a0.1, a0.2), ())).1.2.1, ((f29 ((a0.1, a0.2), ())).1.2.2.1, ((f29 ((a0.1, a0.2), ())).1.2.2.2.1, ()))))).2.1 != (0 : Int))) || (!(f36 ((f29 ((a0.1, a0.2), ())).1.1, ((f31 ((f29 ((a0.1, a0.2), ())).1.1, ((f29 ((a0.1, a0.2), ())).1.2.1, ((f29 ((a0.1, a0.2), ())).1.2.2.1, ((f29 ((a0.1, a0.2), ())).1.2.2.2.1, ()))))).1, ()))).1)) then
  (some (false, ()))
  else bif (p40 ((f29 ((a0.1, a0.2), ())).1.1, ((f31 ((f29 ((a0.1, a0.2), ())).1.1, ((f29 ((a0.1, a0.2), ())).1.2.1, ((f29 ((a0.1, a0.2), ())).1.2.2.1, ((f29 ((a0.1, a0.2), ())).1.2.2.2.1, ()))))).1, ()))) then
  (bif (p50 ((f29 ((a0.1, a0.2), ())).1.1, ((f29 ((a0.1, a0.2), ())).1.2.2.2.1, ()))) then
  (bif (p49 ((f40 ((f29 ((a0.1, a0.2), ())).1.1, ((f31 ((f29 ((a0.1, a0.2), ())).1.1, ((f29 ((a0.1, a0.2), ())).1.2.1, ((f29 ((a0.1, a0.2), ())).1.2.2.1, ((f29 ((a0.1, a0.2), ())).1.2.2.2.1, ()))))).1, ()))).1, (f50 ((f29 ((a0.1, a0.2), ())).1.1, ((f29 ((a0.1, a0.2), ())).1.2.2.2.1, ()))))) then
  (bif (p50 ((f29 ((a0.1, a0.2), ())).1.1, ((f29 ((a0.1, a0.2), ())).1.2.2.1, ()))) then
  (bif (p46 ((f49 ((f40 ((f29 ((a0.1, a0.2), ())).1.1, ((f31 ((f29 ((a0.1, a0.2), ())).1.1, ((f29 ((a0.1, a0.2), ())).1.2.1, ((f29 ((a0.1, a0.2), ())).1.2.2.1, ((f29 ((a0.1, a0.2), ())).1.2.2.2.1, ()))))).1, ()))).1, (f50 ((f29 ((a0.1, a0.2), ())).1.1, ((f29 ((a0.1, a0.2), ())).1.2.2.2.1, ()))))).1, (f50 ((f29 ((a0.1, a0.2), ())).1.1, ((f29 ((a0.1, a0.2), ())).1.2.2.1, ()))))) then
  (some ((((((f40 ((f29 ((a0.1, a0.2), ())).1.1, ((f31 ((f29 ((a0.1, a0.2), ())).1.1, ((f29 ((a0.1, a0.2), ())).1.2.1, ((f29 ((a0.1, a0.2), ())).1.2.2.1, ((f29 ((a0.1, a0.2), ())).1.2.2.2.1, ()))))).1, ()))).2.1 == (0 : Int)) && ((f49 ((f40 ((f29 ((a0.1, a0.2), ())).1.1, ((f31 ((f29 ((a0.1, a0.2), ())).1.1, ((f29 ((a0.1, a0.2), ())).1.2.1, ((f29 ((a0.1, a0.2), ())).1.2.2.1, ((f29 ((a0.1, a0.2), ())).1.2.2.2.1, ()))))).1, ()))).1, (f50 ((f29 ((a0.1, a0.2), ())).1.1, ((f29 ((a0.1, a0.2), ())).1.2.2.2.1, ()))))).2.1 == (0 : Int))) && ((f46 ((f49 ((f40 ((f29 ((a0.1, a0.2), ())).1.1, ((f31 ((f29 ((a0.1, a0.2), ())).1.1, ((f29 ((a0.1, a0.2), ())).1.2.1, ((f29 ((a0.1, a0.2), ())).1.2.2.1, ((f29 ((a0.1, a0.2), ())).1.2.2.2.1, ()))))).1, ()))).1, (f50 ((f29 ((a0.1, a0.2), ())).1.1, ((f29 ((a0.1, a0.2), ())).1.2.2.2.1, ()))))).1, (f50 ((f29 ((a0.1, a0.2), ())).1.1, ((f29 ((a0.1, a0.2), ())).1.2.2.1, ()))))).2.1 == (0 : Int))) && ((f46 ((f49 ((f40 ((f29 ((a0.1, a0.2), ())).1.1, ((f31 ((f29 ((a0.1, a0.2), ())).1.1, ((f29 ((a0.1, a0.2), ())).1.2.1, ((f29 ((a0.1, a0.2), ())).1.2.2.1, ((f29 ((a0.1, a0.2), ())).1.2.2.2.1, ()))))).1, ()))).1, (f50 ((f29 ((a0.1, a0.2), ())).1.1, ((f29 ((a0.1, a0.2), ())).1.2.2.2.1, ()))))).1, (f50 ((f29 ((a0.1, a0.2), ())).1.1, ((f29 ((a0.1, a0.2), ())).1.2.2.1, ()))))).1 == (0 : Int))), ()))
  else none)
  else none)
  else none)
  else none)
  else none)
  else none)
  else none)
  else none)
  else none)
  else none)
  else none)
  else bif (p46 ((f44 ((f40 ((f29 ((a0.1, a0.2), ())).1.1, ((f29 ((a0.1, a0.2), ())).1.2.2.1, ()))).1, ((f40 ((f29 ((a0.1, a0.2), ())).1.1, ((f29 ((a0.1, a0.2), ())).1.2.2.2.1, ()))).1, ()))).1, ((f40 ((f29 ((a0.1, a0.2), ())).1.1, ((f29 ((a0.1, a0.2), ())).1.2.2.2.1, ()))).1, ()))) then
  (bif (p46 ((f48 ((f44 ((f40 ((f29 ((a0.1, a0.2), ())).1.1, ((f29 ((a0.1, a0.2), ())).1.2.2.1, ()))).1, ((f40 ((f29 ((a0.1, a0.2), ())).1.1, ((f29 ((a0.1, a0.2), ())).1.2.2.2.1, ()))).1, ()))).1, ())).1, ((f40 ((f29 ((a0.1, a0.2), ())).1.1, ((f29 ((a0.1, a0.2), ())).1.2.2.1, ()))).1, ()))) then
  (bif (((((f44 ((f40 ((f29 ((a0.1, a0.2), ())).1.1, ((f29 ((a0.1, a0.2), ())).1.2.2.1, ()))).1, ((f40 ((f29 ((a0.1, a0.2), ())).1.1, ((f29 ((a0.1, a0.2), ())).1.2.2.2.1, ()))).1, ()))).2.1 != (0 : Int)) || ((f48 ((f44 ((f40 ((f29 ((a0.1, a0.2), ())).1.1, ((f29 ((a0.1, a0.2), ())).1.2.2.1, ()))).1, ((f40 ((f29 ((a0.1, a0.2), ())).1.1, ((f29 ((a0.1, a0.2), ())).1.2.2.2.1, ()))).1, ()))).1, ())).2.1 != (0 : Int))) || ((f46 ((f44 ((f40 ((f29 ((a0.1, a0.2), ())).1.1, ((f29 ((a0.1, a0.2), ())).1.2.2.1, ()))).1, ((f40 ((f29 ((a0.1, a0.2), ())).1.1, ((f29 ((a0.1, a0.2), ())).1.2.2.2.1, ()))).1, ()))).1, ((f40 ((f29 ((a0.1, a0.2), ())).1.1, ((f29 ((a0.1, a0.2), ())).1.2.2.2.1, ()))).1, ()))).2.1 != (0 : Int))) || ((f46 ((f48 ((f44 ((f40 ((f29 ((a0.1, a0.2), ())).1.1, ((f29 ((a0.1, a0.2), ())).1.2.2.1, ()))).1, ((f40 ((f29 ((a0.1, a0.2), ())).1.1, ((f29 ((a0.1, a0.2), ())).1.2.2.2.1, ()))).1, ()))).1, ())).1, ((f40 ((f29 ((a0.1, a0.2), ())).1.1, ((f29 ((a0.1, a0.2), ())).1.2.2.1, ()))).1, ()))).2.1 != (0 : Int))) then
  (some (false, ()))
  else bif ((decide ((f46 ((f44 ((f40 ((f29 ((a0.1, a0.2), ())).1.1, ((f29 ((a0.1, a0.2), ())).1.2.2.1, ()))).1, ((f40 ((f29 ((a0.1, a0.2), ())).1.1, ((f29 ((a0.1, a0.2), ())).1.2.2.2.1, ()))).1, ()))).1, ((f40 ((f29 ((a0.1, a0.2), ())).1.1, ((f29 ((a0.1, a0.2), ())).1.2.2.2.1, ()))).1, ()))).1 > (0 : Int))) || (decide ((f46 ((f48 ((f44 ((f40 ((f29 ((a0.1, a0.2), ())).1.1, ((f29 ((a0.1, a0.2), ())).1.2.2.1, ()))).1, ((f40 ((f29 ((a0.1, a0.2), ())).1.1, ((f29 ((a0.1, a0.2), ())).1.2.2.2.1, ()))).1, ()))).1, ())).1, ((f40 ((f29 ((a0.1, a0.2), ())).1.1, ((f29 ((a0.1, a0.2), ())).1.2.2.1, ()))).1, ()))).1 > (0 : Int)))) then
  (some (true, ()))
  else bif (p31 ((f29 ((a0.1, a0.2), ())).1.1, ((f29 ((a0.1, a0.2), ())).1.2.1, ((f29 ((a0.1, a0.2), ())).1.2.2.1, ((f29 ((a0.1, a0.2), ())).1.2.2.2.1, ()))))) then
  (bif ((p36 ((f29 ((a0.1, a0.2), ())).1.1, ((f31 ((f29 ((a0.1, a0.2), ())).1.1, ((f29 ((a0.1, a0.2), ())).1.2.1, ((f29 ((a0.1, a0.2), ())).1.2.2.1, ((f29 ((a0.1, a0.2), ())).1.2.2.2.1, ()))))).1, ()))) || (!(bif ((!(f31 ((f29 ((a0.1, a0.2), ())).1.1, ((f29 ((a0.1, a0.2), ())).1.2.1, ((f29 ((a0.1, a0.2), ())).1.2.2.1, ((f29 ((a0.1, a0.2), ())).1.2.2.2.1, ()))))).2.2.1) || ((f31 ((f29 ((a0.1, a0.2), ())).1.1, ((f29 ((a0.1, a0.2), ())).1.2.1, ((f29 ((a0.1, a0.2), ())).1.2.2.1, ((f29 ((a0.1, a0.2), ())).1.2.2.2.1, ()))))).2.1 != (0 : Int))) then false else true))) then
  (bif (((!(f31 ((f29 ((a0.1, a0.2), ())).1.1, ((f29 ((a0.1, a0.2), ())).1.2.1, ((f29 ((a0.1, a0.2), ())).1.2.2.1, ((f29 ((a0.1, a0.2), ())).1.2.2.2.1, ()))))).2.2.1) || ((f31 ((f29 ((a0.1, a0.2), ())).1.1, ((f29 ((a0.1, a0.2), ())).1.2.1, ((f29 ((a0.1, a0.2), ())).1.2.2.1, ((f29 ((a0.1, a0.2), ())).1.2.2.2.1, ()))))).2.1 != (0 : Int))) || (!(f36 ((f29 ((a0.1, a0.2), ())).1.1, ((f31 ((f29 ((a0.1, a0.2), ())).1.1, ((f29 ((a0.1, a0.2), ())).1.2.1, ((f29 ((a0.1, a0.2), ())).1.2.2.1, ((f29 ((a0.1, a0.2), ())).1.2.2.2.1, ()))))).1, ()))).1)) then
  (some (false, ()))
  else bif (p40 ((f29 ((a0.1, a0.2), ())).1.1, ((f31 ((f29 ((a0.1, a0.2), ())).1.1, ((f29 ((a0.1, a0.2), ())).1.2.1, ((f29 ((a0.1, a0.2), ())).1.2.2.1, ((f29 ((a0.1, a0.2), ())).1.2.2.2.1, ()))))).1, ()))) then
  (bif (p50 ((f29 ((a0.1, a0.2), ())).1.1, ((f29 ((a0.1, a0.2), ())).1.2.2.2.1, ()))) then
  (bif (p49 ((f40 ((f29 ((a0.1, a0.2), ())).1.1, ((f31 ((f29 ((a0.1, a0.2), ())).1.1, ((f29 ((a0.1, a0.2), ())).1.2.1, ((f29 ((a0.1, a0.2), ())).1.2.2.1, ((f29 ((a0.1, a0.2), ())).1.2.2.2.1, ()))))).1, ()))).1, (f50 ((f29 ((a0.1, a0.2), ())).1.1, ((f29 ((a0.1, a0.2), ())).1.2.2.2.1, ()))))) then
  (bif (p50 ((f29 ((a0.1, a0.2), ())).1.1, ((f29 ((a0.1, a0.2), ())).1.2.2.1, ()))) then
  (bif (p46 ((f49 ((f40 ((f29 ((a0.1, a0.2), ())).1.1, ((f31 ((f29 ((a0.1, a0.2), ())).1.1, ((f29 ((a0.1, a0.2), ())).1.2.1, ((f29 ((a0.1, a0.2), ())).1.2.2.1, ((f29 ((a0.1, a0.2), ())).1.2.2.2.1, ()))))).1, ()))).1, (f50 ((f29 ((a0.1, a0.2), ())).1.1, ((f29 ((a0.1, a0.2), ())).1.2.2.2.1, ()))))).1, (f50 ((f29 ((a0.1, a0.2), ())).1.1, ((f29 ((a0.1, a0.2), ())).1.2.2.1, ()))))) then
  (some ((((((f40 ((f29 ((a0.1, a0.2), ())).1.1, ((f31 ((f29 ((a0.1, a0.2), ())).1.1, ((f29 ((a0.1, a0.2), ())).1.2.1, ((f29 ((a0.1, a0.2), ())).1.2.2.1, ((f29 ((a0.1, a0.2), ())).1.2.2.2.1, ()))))).1, ()))).2.1 == (0 : Int)) && ((f49 ((f40 ((f29 ((a0.1, a0.2), ())).1.1, ((f31 ((f29 ((a0.1, a0.2), ())).1.1, ((f29 ((a0.1, a0.2), ())).1.2.1, ((f29 ((a0.1, a0.2), ())).1.2.2.1, ((f29 ((a0.1, a0.2), ())).1.2.2.2.1, ()))))).1, ()))).1, (f50 ((f29 ((a0.1, a0.2), ())).1.1, ((f29 ((a0.1, a0.2), ())).1.2.2.2.1, ()))))).2.1 == (0 : Int))) && ((f46 ((f49 ((f40 ((f29 ((a0.1, a0.2), ())).1.1, ((f31 ((f29 ((a0.1, a0.2), ())).1.1, ((f29 ((a0.1, a0.2), ())).1.2.1, ((f29 ((a0.1, a0.2), ())).1.2.2.1, ((f29 ((a0.1, a0.2), ())).1.2.2.2.1, ()))))).1, ()))).1, (f50 ((f29 ((a0.1, a0.2), ())).1.1, ((f29 ((a0.1, a0.2), ())).1.2.2.2.1, ()))))).1, (f50 ((f29 ((a0.1, a0.2), ())).1.1, ((f29 ((a0.1, a0.2), ())).1.2.2.1, ()))))).2.1 == (0 : Int))) && ((f46 ((f49 ((f40 ((f29 ((a0.1, a0.2), ())).1.1, ((f31 ((f29 ((a0.1, a0.2), ())).1.1, ((f29 ((a0.1, a0.2), ())).1.2.1, ((f29 ((a0.1, a0.2), ())).1.2.2.1, ((f29 ((a0.1, a0.2), ())).1.2.2.2.1, ()))))).1, ()))).1, (f50 ((f29 ((a0.1, a0.2), ())).1.1, ((f29 ((a0.1, a0.2), ())).1.2.2.2.1, ()))))).1, (f50 ((f29 ((a0.1, a0.2), ())).1.1, ((f29 ((a0.1, a0.2), ())).1.2.2.1, ()))))).1 == (0 : Int))), ()))
  else none)
  else none)
  else none)
  else none)
  else none)
  else none)
  else none)
  else none)
  else none)
  else none)
  else none)
  else none)
  else none)
  else none)
  else none)
  else none)
  else none)
  else none)
  else none)
  else none
theorem r12 (p24 : DenS I24 → Bool) (f24 : DenS I24 → DenS O24) (p29 : DenS I29 → Bool) (f29 : DenS I29 → DenS O29) (p44 : DenS I44 → Bool) (f44 : DenS I44 → DenS O44) (p47 : DenS I47 → Bool) (f47 : DenS I47 → DenS O47) (p48 : DenS I48 → Bool) (f48 : DenS I48 → DenS O48) (p31 : DenS I31 → Bool) (f31 : DenS I31 → DenS O31) (p36 : DenS I36 → Bool) (f36 : DenS I36 → DenS O36) (p40 : DenS I40 → Bool) (f40 : DenS I40 → DenS O40) (p49 : DenS I49 → Bool) (f49 : DenS I49 → DenS O49) (p50 : DenS I50 → Bool) (f50 : DenS I50 → DenS O50) (p46 : DenS I46 → Bool) (f46 : DenS I46 → DenS O46) (a0 : Den (.pair (.int .i64) (.pair (.int .i64) (.pair (.int .u64) (.pair (.int .u64) (.pair (.int .u64) (.unit))))))) :
    run { P := Go.Proofs.Tryd.prog, sums := [(24, ⟨I24, O24, p24, f24⟩), (29, ⟨I29, O29, p29, f29⟩), (44, ⟨I44, O44, p44, f44⟩), (47, ⟨I47, O47, p47, f47⟩), (48, ⟨I48, O48, p48, f48⟩), (31, ⟨I31, O31, p31, f31⟩), (36, ⟨I36, O36, p36, f36⟩), (40, ⟨I40, O40, p40, f40⟩), (49, ⟨I49, O49, p49, f49⟩), (50, ⟨I50, O50, p50, f50⟩), (46, ⟨I46, O46, p46, f46⟩)], loops := [], globs := G1 } 9 12 Go.Proofs.Tryd.f12 I12 O12 (a0, ()) = t12 p24 f24 p29 f29 p44 f44 p47 f47 p48 f48 p31 f31 p36 f36 p40 f40 p49 f49 p50 f50 p46 f46 a0 := by kernel_rfl
noncomputable def T12 (x : DenS I12) : Option (DenS O12) := t12 S24.pre S24.F S29.pre S29.F S44.pre S44.F S47.pre S47.F S48.pre S48.F S31.pre S31.F S36.pre S36.F S40.pre S40.F S49.pre S49.F S50.pre S50.F S46.pre S46.F x.1
noncomputable def C12 : Cfg := { P := Go.Proofs.Tryd.prog, sums := [(24, S24), (29, S29), (44, S44), (47, S47), (48, S48), (31, S31), (36, S36), (40, S40), (49, S49), (50, S50), (46, S46)], loops := [], globs := G1 }
noncomputable def S12 : Sum := sumOf I12 O12 T12 (DenS.dflt O12)
theorem S12_sound : Sound Go.Proofs.Tryd.prog G1 12 S12 :=
  fn_sound C12 9 12 Go.Proofs.Tryd.f12 mixedOk (by kernel_rfl) (by kernel_rfl) (by kernel_rfl) ⟨S24_sound, ⟨S29_sound, ⟨S44_sound, ⟨S47_sound, ⟨S48_sound, ⟨S31_sound, ⟨S36_sound, ⟨S40_sound, ⟨S49_sound, ⟨S50_sound, ⟨S46_sound, trivial⟩⟩⟩⟩⟩⟩⟩⟩⟩⟩⟩ trivial I12 O12 T12 _ fun x => r12 S24.pre S24.F S29.pre S29.F S44.pre S44.F S47.pre S47.F S48.pre S48.F S31.pre S31.F S36.pre S36.F S40.pre S40.F S49.pre S49.F S50.pre S50.F S46.pre S46.F x.1
end Vx
namespace Vx
open Go
theorem pre40 {x : DenS I40} {y : DenS O40} (h : T40 x = some y) : S40.pre x = true := sum_pre (T := T40) h
theorem fun40 {x : DenS I40} {y : DenS O40} (h : T40 x = some y) : S40.F x = y := sum_F (T := T40) h
theorem pre50 {x : DenS I50} {y : DenS O50} (h : T50 x = some y) : S50.pre x = true := sum_pre (T := T50) h
theorem fun50 {x : DenS I50} {y : DenS O50} (h : T50 x = some y) : S50.F x = y := sum_F (T := T50) h
theorem pre103 {x : DenS I103} {y : DenS O103} (h : T103 x = some y) : S103.pre x = true := sum_pre (T := T103) h
theorem fun103 {x : DenS I103} {y : DenS O103} (h : T103 x = some y) : S103.F x = y := sum_F (T := T103) h
theorem pre99 {x : DenS I99} {y : DenS O99} (h : T99 x = some y) : S99.pre x = true := sum_pre (T := T99) h
theorem fun99 {x : DenS I99} {y : DenS O99} (h : T99 x = some y) : S99.F x = y := sum_F (T := T99) h
theorem pre100 {x : DenS I100} {y : DenS O100} (h : T100 x = some y) : S100.pre x = true := sum_pre (T := T100) h
theorem fun100 {x : DenS I100} {y : DenS O100} (h : T100 x = some y) : S100.F x = y := sum_F (T := T100) h
theorem pre172 {x : DenS I172} {y : DenS O172} (h : T172 x = some y) : S172.pre x = true := sum_pre (T := T172) h
theorem fun172 {x : DenS I172} {y : DenS O172} (h : T172 x = some y) : S172.F x = y := sum_F (T := T172) h
theorem pre142 {x : DenS I142} {y : DenS O142} (h : T142 x = some y) : S142.pre x = true := sum_pre (T := T142) h
theorem fun142 {x : DenS I142} {y : DenS O142} (h : T142 x = some y) : S142.F x = y := sum_F (T := T142) h
theorem pre144 {x : DenS I144} {y : DenS O144} (h : T144 x = some y) : S144.pre x = true := sum_pre (T := T144) h
theorem fun144 {x : DenS I144} {y : DenS O144} (h : T144 x = some y) : S144.F x = y := sum_F (T := T144) h
theorem pre1174 {x : DenS I1174} {y : DenS O1174} (h : T1174 x = some y) : S1174.pre x = true := sum_pre (T := T1174) h
theorem fun1174 {x : DenS I1174} {y : DenS O1174} (h : T1174 x = some y) : S1174.F x = y := sum_F (T := T1174) h
theorem pre1146 {x : DenS I1146} {y : DenS O1146} (h : T1146 x = some y) : S1146.pre x = true := sum_pre (T := T1146) h
theorem fun1146 {x : DenS I1146} {y : DenS O1146} (h : T1146 x = some y) : S1146.F x = y := sum_F (T := T1146) h
theorem pre145 {x : DenS I145} {y : DenS O145} (h : T145 x = some y) : S145.pre x = true := sum_pre (T := T145) h
theorem fun145 {x : DenS I145} {y : DenS O145} (h : T145 x = some y) : S145.F x = y := sum_F (T := T145) h
theorem pre101 {x : DenS I101} {y : DenS O101} (h : T101 x = some y) : S101.pre x = true := sum_pre (T := T101) h
theorem fun101 {x : DenS I101} {y : DenS O101} (h : T101 x = some y) : S101.F x = y := sum_F (T := T101) h
theorem pre104 {x : DenS I104} {y : DenS O104} (h : T104 x = some y) : S104.pre x = true := sum_pre (T := T104) h
theorem fun104 {x : DenS I104} {y : DenS O104} (h : T104 x = some y) : S104.F x = y := sum_F (T := T104) h
theorem pre49 {x : DenS I49} {y : DenS O49} (h : T49 x = some y) : S49.pre x = true := sum_pre (T := T49) h
theorem fun49 {x : DenS I49} {y : DenS O49} (h : T49 x = some y) : S49.F x = y := sum_F (T := T49) h
theorem pre47 {x : DenS I47} {y : DenS O47} (h : T47 x = some y) : S47.pre x = true := sum_pre (T := T47) h
theorem fun47 {x : DenS I47} {y : DenS O47} (h : T47 x = some y) : S47.F x = y := sum_F (T := T47) h
theorem pre44 {x : DenS I44} {y : DenS O44} (h : T44 x = some y) : S44.pre x = true := sum_pre (T := T44) h
theorem fun44 {x : DenS I44} {y : DenS O44} (h : T44 x = some y) : S44.F x = y := sum_F (T := T44) h
theorem pre48 {x : DenS I48} {y : DenS O48} (h : T48 x = some y) : S48.pre x = true := sum_pre (T := T48) h
theorem fun48 {x : DenS I48} {y : DenS O48} (h : T48 x = some y) : S48.F x = y := sum_F (T := T48) h
theorem pre46 {x : DenS I46} {y : DenS O46} (h : T46 x = some y) : S46.pre x = true := sum_pre (T := T46) h
theorem fun46 {x : DenS I46} {y : DenS O46} (h : T46 x = some y) : S46.F x = y := sum_F (T := T46) h
end Vx
namespace VL
open Go Vx
/-- the zeros at a number's end -/
def tz (n : Nat) : Nat := if n = 0 then 0 else if n % 2 = 1 then 0 else tz (n / 2) + 1
termination_by n
decreasing_by omega
theorem tz_of : ∀ (t k : Nat), tz (2 ^ t * (2 * k + 1)) = t
  | 0, k => by
    rw [tz, Nat.pow_zero, Nat.one_mul, if_neg (by omega), if_pos (by omega)]
  | t + 1, k => by
    have e : 2 ^ (t + 1) * (2 * k + 1) = 2 * (2 ^ t * (2 * k + 1)) := by rw [Nat.pow_succ, Nat.mul_comm (2 ^ t) 2, Nat.mul_assoc]
    have hp : 0 < 2 ^ t * (2 * k + 1) := Nat.mul_pos (Nat.two_pow_pos t) (by omega)
    have ih := tz_of t k
    rw [e]
    generalize 2 ^ t * (2 * k + 1) = n at *
    rw [tz, if_neg (by omega), if_neg (by omega), show 2 * n / 2 = n by omega, ih]
theorem tz_split {n : Nat} (h : n ≠ 0) : ∃ k, n = 2 ^ tz n * (2 * k + 1) := by
  obtain ⟨t, k, e⟩ := two_split (x := n) (by omega)
  refine ⟨k, ?_⟩
  have := tz_of t k
  rw [← e] at this
  rw [this]; exact e
theorem word_split {x i t k r : Nat} (hx : x = 2 ^ t * (2 * k + 1)) (ht : t < 64) : (2 ^ 64) ^ i * (x + 2 ^ 64 * r) = 2 ^ (64 * i + t) * (2 * (k + 2 ^ (64 - t - 1) * r) + 1) := by
  have h1 : 2 ^ 64 = 2 ^ t * (2 ^ (64 - t - 1) * 2) := by rw [← Nat.pow_succ, ← Nat.pow_add]; congr 1; omega
  rw [pow64, hx, Nat.pow_add, Nat.mul_assoc]
  congr 1
  rw [h1, Nat.mul_assoc, ← Nat.mul_add]
  congr 1
  rw [Nat.mul_assoc, Nat.mul_left_comm]
  omega
abbrev Dya := Den (.pair (.bool) (.pair (.slice (.int .u64)) (.pair (.int .i64) (.unit))))
def dy (s : Bool) (n : Nat) (e : Int) : Dya := (s, Dw n, e, ())
theorem dy_zero : dy false 0 0 = (false, [], 0, ()) := by unfold dy; rw [Dw_zero]
theorem quo64m (i : Nat) (h : i ≤ 1000000) : quoI .i64 ((64 * i : Nat) : Int) 64 = (i : Int) := by
  rw [quoN _ (by omega), show 64 * i / 64 = i by omega]
theorem W100_eq (n : Nat) (h0 : n ≠ 0) (hl : (dg (2 ^ 64) n).length ≤ 1000000) (M : PMem P100_5.mem) :
    W100_5 (((0 : Int), (Dw n, ((), ((), ())))), M) = some (.inl ((((64 * (tz n / 64) : Nat) : Int), (Dw n, ((), ((), ())))), M)) := by
  have key := lfix_ind (m100_5 S102.pre S102.F S92.pre S92.F S141.pre S141.F) (fun x => (dg (2 ^ 64) n).length - x.1.1.toNat / 64)
    (fun x => ∃ i : Nat, i ≤ (dg (2 ^ 64) n).length ∧ nv (2 ^ 64) ((dg (2 ^ 64) n).take i) = 0 ∧ x = ((((64 * i : Nat) : Int), (Dw n, ((), ((), ())))), M))
    (fun _ => .inl ((((64 * (tz n / 64) : Nat) : Int), (Dw n, ((), ((), ())))), M)) ?_ (((0 : Int), (Dw n, ((), ((), ())))), M) ⟨0, Nat.zero_le _, rfl, rfl⟩
  · exact key
  intro L x hx hL
  obtain ⟨i, hi, hz, rfl⟩ := hx
  have hnv := nv_Dw n
  have ha := dg_lt (B := 2 ^ 64) (by decide) n
  have hlt : i < (dg (2 ^ 64) n).length := by
    rcases Nat.lt_or_ge i (dg (2 ^ 64) n).length with h | h
    · exact h
    · rw [List.take_of_length_le h, hnv] at hz; exact absurd hz h0
  unfold h100_5
  have e64 : IntKind.wrap .i64 (((64 * i : Nat) : Int) + 64) = ((64 * (i + 1) : Nat) : Int) := by rw [wrapI (by omega)]; omega
  have hxl := getD_lt (by decide) ha i
  unfold Dw at hL ⊢
  rcases Nat.eq_zero_or_pos ((dg (2 ^ 64) n).getD i 0) with hw | hw
  · simp (disch := omega) only [quo64m, wadd, wadd1, wadd64, wsubn, wsub1, wmul64, ilt_t, ilt_f, ile_t, ile_f, igt_t, igt_f, ige_t, ige_f, ipos_t, ipos_f, igt0_t, igt0_f, nnn, beq0_t, beq0_f, bne0_t, bne0_f, Int.toNat_natCast, Int.toNat_zero, cond_true, cond_false, Bool.and_self, Bool.true_and, Bool.and_true, Bool.false_and, Bool.and_false, Bool.not_true, Bool.not_false, Bool.or_self, Bool.true_or, Bool.or_true, Bool.false_or, Bool.or_false, Wd_len, Wd_getD, e64]
    refine hL _ ⟨i + 1, by omega, ?_, rfl⟩ (by simp only [Int.toNat_natCast]; omega)
    rw [nv_take_succ _ _ _ hlt, hz, hw, Nat.mul_zero]
  · simp (disch := omega) only [quo64m, wadd, wadd1, wadd64, wsubn, wsub1, wmul64, ilt_t, ilt_f, ile_t, ile_f, igt_t, igt_f, ige_t, ige_f, ipos_t, ipos_f, igt0_t, igt0_f, nnn, beq0_t, beq0_f, bne0_t, bne0_f, Int.toNat_natCast, Int.toNat_zero, cond_true, cond_false, Bool.and_self, Bool.true_and, Bool.and_true, Bool.false_and, Bool.and_false, Bool.not_true, Bool.not_false, Bool.or_self, Bool.true_or, Bool.or_true, Bool.false_or, Bool.or_false, Wd_len, Wd_getD]
    obtain ⟨t, k, e⟩ := two_split hw
    have ht : t < 64 := by
      have h1 : 2 ^ t * 1 ≤ 2 ^ t * (2 * k + 1) := Nat.mul_le_mul_left _ (by omega)
      exact (Nat.pow_lt_pow_iff_right (a := 2) (by decide)).1 (by omega)
    have hv : n = (2 ^ 64) ^ i * ((dg (2 ^ 64) n).getD i 0 + 2 ^ 64 * nv (2 ^ 64) ((dg (2 ^ 64) n).drop (i + 1))) := by
      have h1 := nv_split (2 ^ 64) (dg (2 ^ 64) n) i hi
      rw [hnv, hz, Nat.zero_add, nv_drop_next _ _ _ hlt] at h1
      exact h1
    rw [word_split e ht] at hv
    have htz : tz n = 64 * i + t := by rw [hv]; exact tz_of _ _
    rw [htz, show (64 * i + t) / 64 = i by omega]
theorem T100_eq (s : Bool) (l : List Nat) (hl : Ws l) (e : Int) (he : -100000000 ≤ e ∧ e ≤ 100000000) :
    T100 ((s, Wd l, e, ()), ()) = some (if nv (2 ^ 64) l = 0 then dy false 0 0 else dy s (nv (2 ^ 64) l / 2 ^ tz (nv (2 ^ 64) l)) (e + tz (nv (2 ^ 64) l)), ()) := by
  show t100 S102.pre S102.F S92.pre S92.F S141.pre S141.F W100_5 (s, Wd l, e, ()) = _
  unfold t100
  dsimp only
  have p0 := T102_eq l hl
  simp only [pre102 p0, fun102 p0, cond_true]
  have hlt := nv_lt (B := 2 ^ 64) (by decide) l hl.1
  have hll := hl.2
  generalize hn : nv (2 ^ 64) l = n at *
  have hdl : (dg (2 ^ 64) n).length ≤ 1000000 := Nat.le_trans (dg_len_le (by decide) _ _ hlt) hll
  by_cases h0 : n = 0
  · subst h0
    rw [Dw_zero, if_pos rfl, dy_zero]; rfl
  · have hlen : (((Dw n).length : Int) == 0) = false := beq0_f _ (by have := Dw_len h0; omega)
    rw [hlen, cond_false, if_neg h0]
    have hw := W100_eq n h0 hdl ((s, Wd l, e, ()), (false, [], 0, ()), ())
    rw [show W100_5 (((0 : Int), (Dw n, ((), ((), ())))), ((s, Wd l, e, ()), ((false, ([], ((0 : Int), ()))), ()))) = _ from hw]
    dsimp only [obind, obind2]
    obtain ⟨k, hk⟩ := tz_split h0
    have htl : tz n / 64 < (dg (2 ^ 64) n).length := by
      rcases Nat.lt_or_ge (tz n / 64) (dg (2 ^ 64) n).length with h | h
      · exact h
      · exfalso
        have h1 := dg_len_gt (B := 2 ^ 64) (by decide) n
        rw [pow64] at h1
        have h2 : 2 ^ (64 * (dg (2 ^ 64) n).length) ≤ 2 ^ tz n := Nat.pow_le_pow_right (by decide) (by omega)
        have h3 : 2 ^ tz n * 1 ≤ 2 ^ tz n * (2 * k + 1) := Nat.mul_le_mul_left _ (by omega)
        omega
    have hword : ∃ k', (dg (2 ^ 64) n).getD (tz n / 64) 0 = 2 ^ (tz n % 64) * (2 * k' + 1) := by
      have h1 : (dg (2 ^ 64) n).getD (tz n / 64) 0 = n / (2 ^ 64) ^ (tz n / 64) % 2 ^ 64 := by
        have h2 : dg (2 ^ 64) n = pd (2 ^ 64) (dg (2 ^ 64) n).length n := pd_at (by decide) (dg_lt (by decide) n) rfl (nv_Dw n)
        rw [h2, pd_get _ _ _ _ htl]
      have h3 : n / (2 ^ 64) ^ (tz n / 64) = 2 ^ (tz n % 64) * (2 * k + 1) := by
        have h4 : 2 ^ tz n = (2 ^ 64) ^ (tz n / 64) * 2 ^ (tz n % 64) := by rw [pow64, ← Nat.pow_add]; congr 1; omega
        have h5 : n = (2 ^ 64) ^ (tz n / 64) * (2 ^ (tz n % 64) * (2 * k + 1)) := by rw [← Nat.mul_assoc, ← h4]; exact hk
        have h6 := Nat.mul_div_cancel_left (2 ^ (tz n % 64) * (2 * k + 1)) (show 0 < (2 ^ 64) ^ (tz n / 64) from Nat.pow_pos (by decide))
        rw [← h5] at h6
        exact h6
      rw [h1, h3]
      have hr : tz n % 64 < 64 := Nat.mod_lt _ (by decide)
      generalize tz n % 64 = r at *
      have h6 : 2 ^ 64 = 2 ^ r * (2 ^ (64 - r - 1) * 2) := by rw [← Nat.pow_succ, ← Nat.pow_add]; congr 1; omega
      rw [h6, Nat.mul_mod_mul_left]
      refine ⟨(2 * k + 1) % (2 ^ (64 - r - 1) * 2) / 2, ?_⟩
      congr 1
      have h7 : (2 * k + 1) % (2 ^ (64 - r - 1) * 2) % 2 = (2 * k + 1) % 2 := Nat.mod_mod_of_dvd _ ⟨_, Nat.mul_comm _ _⟩
      omega
    obtain ⟨k', hk'⟩ := hword
    have hwl := getD_lt (B := 2 ^ 64) (by decide) (dg_lt (by decide) n) (tz n / 64)
    have p1 := T92_eq (t := tz n % 64) (k := k') (by rw [← hk']; exact hwl)
    rw [← hk'] at p1
    have p2 := T141_eq (dg (2 ^ 64) n) (dg_ws n hdl) (tz n) (by omega)
    rw [nv_Dw] at p2
    have e1 : IntKind.wrap .i64 (((64 * (tz n / 64) : Nat) : Int) + ((tz n % 64 : Nat) : Int)) = (tz n : Int) := by rw [wrapI (by omega)]; omega
    have e2 : IntKind.wrap .i64 (e + (tz n : Int)) = e + (tz n : Int) := wrapI (by omega)
    have hg : decide (((tz n / 64 : Nat) : Int) < ((dg (2 ^ 64) n).length : Int)) = true := decide_eq_true (by omega)
    unfold Dw at *
    simp (disch := omega) only [quo64m, wadd, wadd1, wadd64, wsubn, wsub1, wmul64, ilt_t, ilt_f, ile_t, ile_f, igt_t, igt_f, ige_t, ige_f, ipos_t, ipos_f, igt0_t, igt0_f, nnn, beq0_t, beq0_f, bne0_t, bne0_f, Int.toNat_natCast, Int.toNat_zero, cond_true, cond_false, Bool.and_self, Bool.true_and, Bool.and_true, Bool.false_and, Bool.and_false, Bool.not_true, Bool.not_false, Bool.or_self, Bool.true_or, Bool.or_true, Bool.false_or, Bool.or_false, Wd_len, Wd_getD, pre92 p1, fun92 p1, e1, pre141 p2, fun141 p2, e2]
    rfl
/-- odd, over numbers -/
theorem T100_dy (s : Bool) {n : Nat} (hn : n < (2 ^ 64) ^ 5000) (e : Int) (he : -100000000 ≤ e ∧ e ≤ 100000000) :
    T100 (dy s n e, ()) = some (if n = 0 then dy false 0 0 else dy s (n / 2 ^ tz n) (e + tz n), ()) := by
  have := T100_eq s (dg (2 ^ 64) n) (Dw_ws hn) e he
  rw [nv_Dw] at this
  exact this
theorem set_same' {l : List Nat} {i : Nat} (h : i < l.length) : l.set i (l.getD i 0) = l := by
  rw [List.getD_eq_getElem?_getD, List.getElem?_eq_getElem h]
  exact List.set_getElem_self h
theorem W172_eq (a : List Nat) (ha : ∀ x ∈ a, x < 2 ^ 64) (hlen : a.length ≤ 1000000) (w s : Nat) (hs : s < 64) (hw : w ≤ 10000000) (i : Nat) (hi : i ≤ a.length) :
    W172_6 (((a.length : Int), (Wd a, ((w : Int), ((s : Int), ((i : Int), ((), ())))))), (Wd (pd (2 ^ 64) (w + a.length + 1) (2 ^ (64 * w + s) * nv (2 ^ 64) (a.take i))), ())) = some (.inl (((), ()), (Wd (pd (2 ^ 64) (w + a.length + 1) (2 ^ (64 * w + s) * nv (2 ^ 64) a)), ()))) := by
  have key := lfix_ind (m172_6 S102.pre S102.F) (fun x => a.length - x.1.2.2.2.2.1.toNat)
    (fun x => ∃ i : Nat, i ≤ a.length ∧ x = (((a.length : Int), (Wd a, ((w : Int), ((s : Int), ((i : Int), ((), ())))))), (Wd (pd (2 ^ 64) (w + a.length + 1) (2 ^ (64 * w + s) * nv (2 ^ 64) (a.take i))), ())))
    (fun _ => .inl (((), ()), (Wd (pd (2 ^ 64) (w + a.length + 1) (2 ^ (64 * w + s) * nv (2 ^ 64) a)), ()))) ?_ _ ⟨i, hi, rfl⟩
  · exact key
  intro L x hx hL
  obtain ⟨i, hi, rfl⟩ := hx
  unfold h172_6
  rcases Nat.lt_or_ge i a.length with hlt | hge
  · have hxl := getD_lt (by decide) ha i
    have ht := nv_lt (B := 2 ^ 64) (by decide) (a.take i) fun x hx => ha x (List.mem_of_mem_take hx)
    rw [List.length_take, Nat.min_eq_left (by omega), pow64] at ht
    have hV : 2 ^ (64 * w + s) * nv (2 ^ 64) (a.take i) < 2 ^ (64 * (w + i) + s) := by
      have e : 64 * (w + i) + s = (64 * w + s) + 64 * i := by omega
      rw [e, Nat.pow_add _ (64 * w + s)]
      exact Nat.mul_lt_mul_of_pos_left ht (Nat.two_pow_pos _)
    have hnext := nv_take_succ (2 ^ 64) a i hlt
    have hgo := hL (((a.length : Int), (Wd a, ((w : Int), ((s : Int), (((i + 1 : Nat) : Int), ((), ())))))), (Wd (pd (2 ^ 64) (w + a.length + 1) (2 ^ (64 * w + s) * nv (2 ^ 64) (a.take (i + 1)))), ())) ⟨i + 1, by omega, rfl⟩ (by simp only [Int.toNat_natCast]; omega)
    rw [hnext, Nat.mul_add, ← Nat.mul_assoc, show 2 ^ (64 * w + s) * (2 ^ 64) ^ i = 2 ^ (64 * (w + i) + s) by rw [pow64, ← Nat.pow_add]; congr 1; omega] at hgo
    have hz1 : (pd (2 ^ 64) (w + a.length + 1) (2 ^ (64 * w + s) * nv (2 ^ 64) (a.take i))).getD (w + i + 1) 0 = 0 := by
      rw [pd_get _ _ _ _ (by omega), pow64]
      have h64 : 2 ^ (64 * (w + i) + s) ≤ 2 ^ (64 * (w + i + 1)) := Nat.pow_le_pow_right (by decide) (by omega)
      rw [Nat.div_eq_of_lt (by omega)]
    generalize hout : pd (2 ^ 64) (w + a.length + 1) (2 ^ (64 * w + s) * nv (2 ^ 64) (a.take i)) = out at *
    obtain ⟨q1, q2, q3⟩ := left_step (k := w + i) hs hout.symm (by omega) hV hxl
    have hol : out.length = w + a.length + 1 := by rw [← hout, pd_len]
    have g1 : a.getD i 0 * 2 ^ s % 2 ^ 64 = (a.getD i 0 % 2 ^ (64 - s)) * 2 ^ s := by
      have : 2 ^ 64 = 2 ^ (64 - s) * 2 ^ s := by rw [← Nat.pow_add]; congr 1; omega
      rw [this, Nat.mul_mod_mul_right]
    have e8 : IntKind.wrap .u64 (64 - (s : Int)) = ((64 - s : Nat) : Int) := by rw [wrapU (by omega)]; omega
    rcases Nat.eq_zero_or_pos s with hs0 | hs0
    · have hq : out.set (w + i) (out.getD (w + i) 0 + a.getD i 0 % 2 ^ (64 - s) * 2 ^ s) = pd (2 ^ 64) (w + a.length + 1) (2 ^ (64 * w + s) * nv (2 ^ 64) (a.take i) + 2 ^ (64 * (w + i) + s) * a.getD i 0) := by
        rw [← q3]
        have hd : a.getD i 0 / 2 ^ (64 - s) = 0 := by rw [hs0]; exact Nat.div_eq_of_lt hxl
        have hg : (out.set (w + i) (out.getD (w + i) 0 + a.getD i 0 % 2 ^ (64 - s) * 2 ^ s)).getD (w + i + 1) 0 = 0 := by rw [getD_set_ne (by omega)]; exact hz1
        rw [hd]
        have := set_same' (l := out.set (w + i) (out.getD (w + i) 0 + a.getD i 0 % 2 ^ (64 - s) * 2 ^ s)) (i := w + i + 1) (by rw [List.length_set]; omega)
        rw [hg] at this
        exact this.symm
      simp (disch := omega) only [wadd, wadd1, wadd64, wsubn, wsub1, wmul64, ilt_t, ilt_f, ile_t, ile_f, igt_t, igt_f, ige_t, ige_f, ipos_t, ipos_f, igt0_t, igt0_f, nnn, beq0_t, beq0_f, bne0_t, bne0_f, Int.toNat_natCast, Int.toNat_zero, cond_true, cond_false, Bool.and_self, Bool.true_and, Bool.and_true, Bool.false_and, Bool.and_false, Bool.not_true, Bool.not_false, Bool.or_self, Bool.true_or, Bool.or_true, Bool.false_or, Bool.or_false, Wd_len, Wd_getD, shlN _ s (by omega), g1, orN q1 q2, Wd_set, hq]
      exact hgo
    · simp (disch := omega) only [wadd, wadd1, wadd64, wsubn, wsub1, wmul64, ilt_t, ilt_f, ile_t, ile_f, igt_t, igt_f, ige_t, ige_f, ipos_t, ipos_f, igt0_t, igt0_f, nnn, beq0_t, beq0_f, bne0_t, bne0_f, Int.toNat_natCast, Int.toNat_zero, cond_true, cond_false, Bool.and_self, Bool.true_and, Bool.and_true, Bool.false_and, Bool.and_false, Bool.not_true, Bool.not_false, Bool.or_self, Bool.true_or, Bool.or_true, Bool.false_or, Bool.or_false, Wd_len, Wd_getD, e8, shlN _ s (by omega), shrN _ (64 - s) (by omega), g1, orN q1 q2, Wd_set, List.length_set, q3]
      exact hgo
  · have e : i = a.length := by omega
    subst e
    rw [List.take_length]
    simp (disch := omega) only [wadd, wadd1, wadd64, wsubn, wsub1, wmul64, ilt_t, ilt_f, ile_t, ile_f, igt_t, igt_f, ige_t, ige_f, ipos_t, ipos_f, igt0_t, igt0_f, nnn, beq0_t, beq0_f, bne0_t, bne0_f, Int.toNat_natCast, Int.toNat_zero, cond_true, cond_false, Bool.and_self, Bool.true_and, Bool.and_true, Bool.false_and, Bool.and_false, Bool.not_true, Bool.not_false, Bool.or_self, Bool.true_or, Bool.or_true, Bool.false_or, Bool.or_false]
theorem T172_eq {x : Nat} (hx : x < (2 ^ 64) ^ 5000) (n : Nat) (hn : n ≤ 1000000) : T172 (Dw x, (n : Int), ()) = some (Dw (x * 2 ^ n), ()) := by
  show t172 S102.pre S102.F W172_6 (Dw x) n = _
  unfold t172
  have hws := Dw_ws hx
  have hl : (dg (2 ^ 64) x).length ≤ 5000 := dg_len_le (by decide) _ _ hx
  have hv := nv_Dw x
  by_cases h0 : x = 0
  · subst h0
    rw [Dw_zero, Nat.zero_mul, Dw_zero]; rfl
  · have hlen : (((Dw x).length : Int) == 0) = false := beq0_f _ (by have := Dw_len h0; omega)
    rw [hlen, cond_false]
    have e4 : Int.tmod (n : Int) 64 = ((n % 64 : Nat) : Int) := rfl
    have e5 : IntKind.wrap .u64 ((n % 64 : Nat) : Int) = ((n % 64 : Nat) : Int) := wu_id _ (by omega)
    have hw := W172_eq (dg (2 ^ 64) x) hws.1 (by omega) (n / 64) (n % 64) (Nat.mod_lt _ (by decide)) (by omega) 0 (Nat.zero_le _)
    rw [show nv (2 ^ 64) ((dg (2 ^ 64) x).take 0) = 0 by rfl, Nat.mul_zero, pd_zero, show 64 * (n / 64) + n % 64 = n by omega, show ((0 : Nat) : Int) = 0 from rfl, hv] at hw
    have e3 : decide (((n / 64 + (dg (2 ^ 64) x).length + 1 : Nat) : Int) * 8 ≤ 140737488355328) = true := decide_eq_true (by omega)
    have hV : 2 ^ n * x < (2 ^ 64) ^ (n / 64 + (dg (2 ^ 64) x).length + 1) := by
      have := dg_len_gt (B := 2 ^ 64) (by decide) x
      rw [pow64] at this ⊢
      have h1 : 2 ^ n * x < 2 ^ n * 2 ^ (64 * (dg (2 ^ 64) x).length) := Nat.mul_lt_mul_of_pos_left this (Nat.two_pow_pos _)
      rw [← Nat.pow_add] at h1
      exact Nat.lt_of_lt_of_le h1 (Nat.pow_le_pow_right (by decide) (by omega))
    have p1 := T102_eq (pd (2 ^ 64) (n / 64 + (dg (2 ^ 64) x).length + 1) (2 ^ n * x)) ⟨pd_lt (by decide) _ _, by rw [pd_len]; omega⟩
    rw [pd_nv (by decide) _ _ hV, Nat.mul_comm (2 ^ n)] at p1
    rw [Nat.mul_comm (2 ^ n)] at hw
    unfold Dw at *
    simp (disch := omega) only [wadd, wadd1, wadd64, wsubn, wsub1, wmul64, ilt_t, ilt_f, ile_t, ile_f, igt_t, igt_f, ige_t, ige_f, ipos_t, ipos_f, igt0_t, igt0_f, nnn, beq0_t, beq0_f, bne0_t, bne0_f, Int.toNat_natCast, Int.toNat_zero, cond_true, cond_false, Bool.and_self, Bool.true_and, Bool.and_true, Bool.false_and, Bool.and_false, Bool.not_true, Bool.not_false, Bool.or_self, Bool.true_or, Bool.or_true, Bool.false_or, Bool.or_false, Wd_len, quoN n (by omega), e4, e5, e3, Wd_rep, hw]
    generalize pd (2 ^ 64) (n / 64 + (dg (2 ^ 64) x).length + 1) (x * 2 ^ n) = out at *
    show (bif S102.pre (Wd out, ()) then some (S102.F (Wd out, ())) else none) = _
    rw [pre102 p1, fun102 p1]
    rfl
end VL
namespace VL
open Go Vx
theorem W144_eq (a b : List Nat) (ha : ∀ x ∈ a, x < 2 ^ 64) (hb : ∀ x ∈ b, x < 2 ^ 64) (hla : a.length ≤ 1000000) (hab : a.length = b.length) :
    W144_7 ((Wd a, (Wd b, ((a.length : Int) - 1, ()))), ()) = some (if nv (2 ^ 64) a = nv (2 ^ 64) b then .inl ((), ()) else .inr (((if nv (2 ^ 64) a < nv (2 ^ 64) b then (-1 : Int) else 1), ()), ())) := by
  have key := lfix_ind (m144_7 S173.pre S173.F) (fun x => (x.1.2.2.1 + 1).toNat)
    (fun x => ∃ j : Nat, j ≤ a.length ∧ nv (2 ^ 64) (a.drop j) = nv (2 ^ 64) (b.drop j) ∧ x = ((Wd a, (Wd b, ((j : Int) - 1, ()))), ()))
    (fun _ => if nv (2 ^ 64) a = nv (2 ^ 64) b then .inl ((), ()) else .inr (((if nv (2 ^ 64) a < nv (2 ^ 64) b then (-1 : Int) else 1), ()), ())) ?_ ((Wd a, (Wd b, ((a.length : Int) - 1, ()))), ())
    ⟨a.length, Nat.le_refl _, by rw [List.drop_length, hab, List.drop_length], rfl⟩
  · exact key
  intro L x hx hL
  obtain ⟨j, hj, hd, rfl⟩ := hx
  unfold h144_7
  rcases j with _ | i
  · have e1 : decide ((((0 : Nat) : Int) - 1) ≥ 0) = false := rfl
    rw [List.drop_zero, List.drop_zero] at hd
    simp only [e1, cond_false, if_pos hd]
  · have e0 : (((i + 1 : Nat) : Int) - 1) = (i : Int) := by omega
    have e2 : IntKind.wrap .i64 ((i : Int) - 1) = (i : Int) - 1 := wrapI (by omega)
    have e3 : decide ((i : Int) ≥ 0) = true := decide_eq_true (by omega)
    simp (disch := omega) only [e0, e2, e3, wadd, wadd1, wadd64, wsubn, wsub1, wmul64, ilt_t, ilt_f, ile_t, ile_f, igt_t, igt_f, ige_t, ige_f, ipos_t, ipos_f, igt0_t, igt0_f, nnn, beq0_t, beq0_f, bne0_t, bne0_f, Int.toNat_natCast, Int.toNat_zero, cond_true, cond_false, Bool.and_self, Bool.true_and, Bool.and_true, Bool.false_and, Bool.and_false, Bool.not_true, Bool.not_false, Bool.or_self, Bool.true_or, Bool.or_true, Bool.false_or, Bool.or_false, Wd_len, Wd_getD]
    rcases Nat.lt_trichotomy (a.getD i 0) (b.getD i 0) with h | h | h
    · have hr := row_lt (by decide) ha (by omega) (by omega) hd h
      simp (disch := omega) only [wadd, wadd1, wadd64, wsubn, wsub1, wmul64, ilt_t, ilt_f, ile_t, ile_f, igt_t, igt_f, ige_t, ige_f, ipos_t, ipos_f, igt0_t, igt0_f, nnn, beq0_t, beq0_f, bne0_t, bne0_f, Int.toNat_natCast, Int.toNat_zero, cond_true, cond_false, Bool.and_self, Bool.true_and, Bool.and_true, Bool.false_and, Bool.and_false, Bool.not_true, Bool.not_false, Bool.or_self, Bool.true_or, Bool.or_true, Bool.false_or, Bool.or_false]
      rw [if_neg (by omega), if_pos hr]
    · simp (disch := omega) only [wadd, wadd1, wadd64, wsubn, wsub1, wmul64, ilt_t, ilt_f, ile_t, ile_f, igt_t, igt_f, ige_t, ige_f, ipos_t, ipos_f, igt0_t, igt0_f, nnn, beq0_t, beq0_f, bne0_t, bne0_f, Int.toNat_natCast, Int.toNat_zero, cond_true, cond_false, Bool.and_self, Bool.true_and, Bool.and_true, Bool.false_and, Bool.and_false, Bool.not_true, Bool.not_false, Bool.or_self, Bool.true_or, Bool.or_true, Bool.false_or, Bool.or_false]
      refine hL _ ⟨i, by omega, ?_, rfl⟩ (by simp only [Int.toNat_natCast]; omega)
      rw [nv_drop_next _ a i (by omega), nv_drop_next _ b i (by omega), hd, h]
    · have hr := row_lt (by decide) hb (by omega) (by omega) hd.symm h
      simp (disch := omega) only [wadd, wadd1, wadd64, wsubn, wsub1, wmul64, ilt_t, ilt_f, ile_t, ile_f, igt_t, igt_f, ige_t, ige_f, ipos_t, ipos_f, igt0_t, igt0_f, nnn, beq0_t, beq0_f, bne0_t, bne0_f, Int.toNat_natCast, Int.toNat_zero, cond_true, cond_false, Bool.and_self, Bool.true_and, Bool.and_true, Bool.false_and, Bool.and_false, Bool.not_true, Bool.not_false, Bool.or_self, Bool.true_or, Bool.or_true, Bool.false_or, Bool.or_false]
      rw [if_neg (by omega), if_neg (by omega)]
theorem T173_dw {x : Nat} (hx : x < (2 ^ 64) ^ 5000) : T173 (Dw x, ()) = some (Dw x, ()) := by
  have := T173_eq (dg (2 ^ 64) x) (Dw_ws hx).2
  rw [dg_trim (by decide)] at this
  exact this
theorem T144_eq {x y : Nat} (hx : x < (2 ^ 64) ^ 5000) (hy : y < (2 ^ 64) ^ 5000) : T144 (Dw x, Dw y, ()) = some (if x = y then 0 else if x < y then -1 else 1, ()) := by
  show t144 S173.pre S173.F W144_7 (Dw x) (Dw y) = _
  unfold t144
  have p0 := T173_dw hx
  have p1 := T173_dw hy
  have hX := Dw_ws hx
  have hY := Dw_ws hy
  have hlx := hX.2
  simp only [pre173 p0, fun173 p0, pre173 p1, fun173 p1, cond_true]
  clear p0 p1
  rcases Nat.lt_trichotomy (dg (2 ^ 64) x).length (dg (2 ^ 64) y).length with h | h | h
  · have hr := dg_len_lt (by decide) h
    unfold Dw
    simp (disch := omega) only [wadd, wadd1, wadd64, wsubn, wsub1, wmul64, ilt_t, ilt_f, ile_t, ile_f, igt_t, igt_f, ige_t, ige_f, ipos_t, ipos_f, igt0_t, igt0_f, nnn, beq0_t, beq0_f, bne0_t, bne0_f, Int.toNat_natCast, Int.toNat_zero, cond_true, cond_false, Bool.and_self, Bool.true_and, Bool.and_true, Bool.false_and, Bool.and_false, Bool.not_true, Bool.not_false, Bool.or_self, Bool.true_or, Bool.or_true, Bool.false_or, Bool.or_false, Wd_len]
    rw [if_neg (by omega), if_pos hr]
  · have hw := W144_eq _ _ hX.1 hY.1 hlx h
    rw [nv_Dw, nv_Dw] at hw
    have e2 : IntKind.wrap .i64 (((dg (2 ^ 64) x).length : Int) - 1) = ((dg (2 ^ 64) x).length : Int) - 1 := wrapI (by omega)
    unfold Dw
    simp (disch := omega) only [wadd, wadd1, wadd64, wsubn, wsub1, wmul64, ilt_t, ilt_f, ile_t, ile_f, igt_t, igt_f, ige_t, ige_f, ipos_t, ipos_f, igt0_t, igt0_f, nnn, beq0_t, beq0_f, bne0_t, bne0_f, Int.toNat_natCast, Int.toNat_zero, cond_true, cond_false, Bool.and_self, Bool.true_and, Bool.and_true, Bool.false_and, Bool.and_false, Bool.not_true, Bool.not_false, Bool.or_self, Bool.true_or, Bool.or_true, Bool.false_or, Bool.or_false, Wd_len, e2, hw]
    by_cases he : x = y
    · rw [if_pos he, if_pos he]; first | rfl | skip
    · rw [if_neg he, if_neg he]; first | rfl | skip
  · have hr := dg_len_lt (by decide) h
    unfold Dw
    simp (disch := omega) only [wadd, wadd1, wadd64, wsubn, wsub1, wmul64, ilt_t, ilt_f, ile_t, ile_f, igt_t, igt_f, ige_t, ige_f, ipos_t, ipos_f, igt0_t, igt0_f, nnn, beq0_t, beq0_f, bne0_t, bne0_f, Int.toNat_natCast, Int.toNat_zero, cond_true, cond_false, Bool.and_self, Bool.true_and, Bool.and_true, Bool.false_and, Bool.and_false, Bool.not_true, Bool.not_false, Bool.or_self, Bool.true_or, Bool.or_true, Bool.false_or, Bool.or_false, Wd_len]
    rw [if_neg (by omega), if_neg (by omega)]
theorem set_drop {out a : List Nat} {i v : Nat} (hol : out.length = i) (h : i < a.length) : (out ++ a.drop i).set i v = (out ++ [v]) ++ a.drop (i + 1) := by
  rw [List.set_append_right _ _ (by omega), hol, Nat.sub_self, List.drop_eq_getElem_cons h, List.set_cons_zero, List.append_assoc]
  rfl
theorem get_drop {out a : List Nat} {i : Nat} (hol : out.length = i) : (out ++ a.drop i).getD i 0 = a.getD i 0 := by
  rw [List.getD_eq_getElem?_getD, List.getElem?_append_right (by omega), hol, Nat.sub_self, List.getElem?_drop, Nat.add_zero, ← List.getD_eq_getElem?_getD]
theorem W1174_eq (a b : List Nat) (ha : ∀ x ∈ a, x < 2 ^ 64) (hb : ∀ x ∈ b, x < 2 ^ 64) (hla : a.length ≤ 1000000) (hba : b.length ≤ a.length) (hv : nv (2 ^ 64) b ≤ nv (2 ^ 64) a) :
    W1174_3 (((a.length : Int), (Wd b, ((0 : Int), ((0 : Int), ((), ()))))), (Wd a, ())) = some (.inl (((), ()), (Wd (pd (2 ^ 64) a.length (nv (2 ^ 64) a - nv (2 ^ 64) b)), ()))) := by
  have key := lfix_ind (m1174_3 S1173.pre S1173.F S157.pre S157.F S173.pre S173.F) (fun x => a.length - x.1.2.2.2.1.toNat)
    (fun x => ∃ (i : Nat) (out : List Nat) (c : Nat), i ≤ a.length ∧ out.length = i ∧ (∀ x ∈ out, x < 2 ^ 64) ∧ c ≤ 1 ∧ nv (2 ^ 64) (a.take i) + (2 ^ 64) ^ i * c = nv (2 ^ 64) (b.take i) + nv (2 ^ 64) out ∧
      x = (((a.length : Int), (Wd b, ((c : Int), ((i : Int), ((), ()))))), (Wd (out ++ a.drop i), ())))
    (fun _ => .inl (((), ()), (Wd (pd (2 ^ 64) a.length (nv (2 ^ 64) a - nv (2 ^ 64) b)), ()))) ?_ (((a.length : Int), (Wd b, ((0 : Int), ((0 : Int), ((), ()))))), (Wd a, ()))
    ⟨0, [], 0, Nat.zero_le _, rfl, (fun x hx => by simp at hx), by decide, by simp [nv], rfl⟩
  · exact key
  intro L x hx hL
  obtain ⟨i, out, c, hi, hol, hod, hc, hov, rfl⟩ := hx
  unfold h1174_3
  rcases Nat.lt_or_ge i a.length with hlt | hge
  · have hxa := getD_lt (by decide) ha i
    have hxb := getD_lt (by decide) hb i
    have hna := nv_take_next (2 ^ 64) a i
    have hnb := nv_take_next (2 ^ 64) b i
    have hzb : b.length ≤ i → b.getD i 0 = 0 := fun h => by rw [List.getD_eq_getElem?_getD, List.getElem?_eq_none h]; rfl
    have hset := fun v => set_drop (v := v) hol hlt
    have hlen : (out ++ a.drop i).length = a.length := by simp; omega
    have hget := get_drop (a := a) hol
    generalize hda : a.getD i 0 = da at *
    generalize hdb : b.getD i 0 = db at *
    have hgo : ∀ c' v : Nat, c' ≤ 1 → v < 2 ^ 64 → da + 2 ^ 64 * c' = db + c + v → L (((a.length : Int), (Wd b, ((c' : Int), (((i + 1 : Nat) : Int), ((), ()))))), (Wd (out ++ [v] ++ a.drop (i + 1)), ())) = _ := fun c' v h1 h2 h3 =>
      hL _ ⟨i + 1, out ++ [v], c', by omega, by simp; omega, app_lt hod h2, h1, by
        rw [hna, hnb, nv_snoc, hol, Nat.pow_succ]
        exact minus_step hov h3, rfl⟩ (by simp only [Int.toNat_natCast]; omega)
    have hgo2 := hgo (if da < db + c then 1 else 0) ((da + 2 ^ 64 - db - c) % 2 ^ 64) (by split <;> omega) (Nat.mod_lt _ (by decide)) (by split <;> omega)
    have hF := subF da db c hc hxa hxb
    have hP := subP (da : Int) (db : Int) c hc
    rcases Nat.lt_or_ge i b.length with hib | hib
    · simp (disch := omega) only [wadd, wadd1, wadd64, wsubn, wsub1, wmul64, ilt_t, ilt_f, ile_t, ile_f, igt_t, igt_f, ige_t, ige_f, ipos_t, ipos_f, igt0_t, igt0_f, nnn, beq0_t, beq0_f, bne0_t, bne0_f, Int.toNat_natCast, Int.toNat_zero, cond_true, cond_false, Bool.and_self, Bool.true_and, Bool.and_true, Bool.false_and, Bool.and_false, Bool.not_true, Bool.not_false, Bool.or_self, Bool.true_or, Bool.or_true, Bool.false_or, Bool.or_false, Wd_len, Wd_getD, hdb, hget, hF, hP, hlen, Wd_set, hset]
      exact hgo2
    · have h0 := hzb hib
      rw [h0] at hF hP
      simp (disch := omega) only [wadd, wadd1, wadd64, wsubn, wsub1, wmul64, ilt_t, ilt_f, ile_t, ile_f, igt_t, igt_f, ige_t, ige_f, ipos_t, ipos_f, igt0_t, igt0_f, nnn, beq0_t, beq0_f, bne0_t, bne0_f, Int.toNat_natCast, Int.toNat_zero, cond_true, cond_false, Bool.and_self, Bool.true_and, Bool.and_true, Bool.false_and, Bool.and_false, Bool.not_true, Bool.not_false, Bool.or_self, Bool.true_or, Bool.or_true, Bool.false_or, Bool.or_false, Wd_len, Wd_getD, hget]
      have hF' : S157.F ((da : Int), ((0 : Int), ((c : Int), ()))) = _ := hF
      have hP' : S157.pre ((da : Int), ((0 : Int), ((c : Int), ()))) = true := hP
      rw [h0] at hgo2
      simp (disch := omega) only [wadd, wadd1, wadd64, wsubn, wsub1, wmul64, ilt_t, ilt_f, ile_t, ile_f, igt_t, igt_f, ige_t, ige_f, ipos_t, ipos_f, igt0_t, igt0_f, nnn, beq0_t, beq0_f, bne0_t, bne0_f, Int.toNat_natCast, Int.toNat_zero, cond_true, cond_false, Bool.and_self, Bool.true_and, Bool.and_true, Bool.false_and, Bool.and_false, Bool.not_true, Bool.not_false, Bool.or_self, Bool.true_or, Bool.or_true, Bool.false_or, Bool.or_false, hF', hP', hlen, Wd_set, hset]
      exact hgo2
  · have e : i = a.length := by omega
    subst e
    rw [List.take_length, List.take_of_length_le hba] at hov
    have hlt := nv_lt (B := 2 ^ 64) (by decide) out hod
    rw [hol] at hlt
    have hc0 : (2 ^ 64) ^ a.length * c = 0 := by
      rcases (show c = 0 ∨ c = 1 by omega) with h | h
      · rw [h, Nat.mul_zero]
      · rw [h, Nat.mul_one] at hov; omega
    have ho := pd_at (B := 2 ^ 64) (v := nv (2 ^ 64) a - nv (2 ^ 64) b) (by decide) hod hol (by omega)
    rw [List.drop_length, List.append_nil]
    simp (disch := omega) only [wadd, wadd1, wadd64, wsubn, wsub1, wmul64, ilt_t, ilt_f, ile_t, ile_f, igt_t, igt_f, ige_t, ige_f, ipos_t, ipos_f, igt0_t, igt0_f, nnn, beq0_t, beq0_f, bne0_t, bne0_f, Int.toNat_natCast, Int.toNat_zero, cond_true, cond_false, Bool.and_self, Bool.true_and, Bool.and_true, Bool.false_and, Bool.and_false, Bool.not_true, Bool.not_false, Bool.or_self, Bool.true_or, Bool.or_true, Bool.false_or, Bool.or_false, Wd_len]
    rw [← ho]
theorem T1146_eq (l : List Nat) (hl : Ws l) : T1146 (Wd l, ()) = some (Dw (nv (2 ^ 64) l), ()) := by
  show t1146 S173.pre S173.F (Wd l) = _
  unfold t1146
  have p0 := T173_eq l hl.2
  have hle := (trim_len l).1
  have h2 := hl.2
  have e3 : decide ((((trimL l).length : Nat) : Int) * 8 ≤ 140737488355328) = true := decide_eq_true (by omega)
  simp (disch := omega) only [wadd, wadd1, wadd64, wsubn, wsub1, wmul64, ilt_t, ilt_f, ile_t, ile_f, igt_t, igt_f, ige_t, ige_f, ipos_t, ipos_f, igt0_t, igt0_f, nnn, beq0_t, beq0_f, bne0_t, bne0_f, Int.toNat_natCast, Int.toNat_zero, cond_true, cond_false, Bool.and_self, Bool.true_and, Bool.and_true, Bool.false_and, Bool.and_false, Bool.not_true, Bool.not_false, Bool.or_self, Bool.true_or, Bool.or_true, Bool.false_or, Bool.or_false, pre173 p0, fun173 p0, Wd_len, e3, List.length_replicate, List.drop_replicate, Nat.sub_self]
  rw [List.take_of_length_le (by rw [Wd_len]; exact Nat.le_refl _), List.replicate_zero, List.append_nil, trim_dg (by decide) l hl.1]
  rfl
theorem T145_eq {x y : Nat} (hx : x < (2 ^ 64) ^ 5000) (h : y ≤ x) : T145 (Dw x, Dw y, ()) = some (Dw (x - y), 0, ()) := by
  show t145 S1174.pre S1174.F S1146.pre S1146.F S144.pre S144.F S146.pre S146.F S173.pre S173.F S174.pre S174.F (Dw x) (Dw y) = _
  unfold t145
  have hy : y < (2 ^ 64) ^ 5000 := Nat.lt_of_le_of_lt h hx
  have p0 := T144_eq hx hy
  have p1 := T1146_eq (dg (2 ^ 64) x) (Dw_ws hx)
  rw [nv_Dw] at p1
  have p1 : T1146 (Dw x, ()) = some (Dw x, ()) := p1
  have p2 := T173_dw hy
  have z1 : decide ((if x = y then (0 : Int) else if x < y then -1 else 1) < 0) = false := by
    by_cases he : x = y
    · rw [if_pos he]; rfl
    · rw [if_neg he, if_neg (by omega)]; rfl
  have hX := Dw_ws hx
  have hY := Dw_ws hy
  have hlx := hX.2
  have p3 : T1174 (Dw x, Dw y, ()) = some (Dw (x - y), ()) := by
    show t1174 S1173.pre S1173.F S157.pre S157.F S173.pre S173.F W1174_3 (Dw x) (Dw y) = _
    unfold t1174
    have hw := W1174_eq (dg (2 ^ 64) x) (dg (2 ^ 64) y) hX.1 hY.1 hlx (dg_len_mono (by decide) h) (by rw [nv_Dw, nv_Dw]; exact h)
    rw [nv_Dw, nv_Dw] at hw
    have q1 := T1173_eq (pd (2 ^ 64) (dg (2 ^ 64) x).length (x - y)) (by rw [pd_len]; exact hlx)
    have hlt := dg_len_gt (B := 2 ^ 64) (by decide) x
    rw [trim_dg (by decide) _ (pd_lt (by decide) _ _), pd_nv (by decide) _ _ (by omega)] at q1
    rw [show (Dw x).length = (dg (2 ^ 64) x).length from Wd_len _]
    rw [show W1174_3 ((((dg (2 ^ 64) x).length : Int), (Dw y, ((0 : Int), ((0 : Int), ((), ()))))), (Dw x, ())) = _ from hw]
    show (bif S1173.pre (Wd (pd (2 ^ 64) (dg (2 ^ 64) x).length (x - y)), ()) then some (S1173.F (Wd (pd (2 ^ 64) (dg (2 ^ 64) x).length (x - y)), ())) else none) = _
    simp only [pre1173 q1, fun1173 q1, cond_true]
    rfl
  simp only [pre144 p0, fun144 p0, cond_true, z1, cond_false, pre1146 p1, fun1146 p1, pre173 p2, fun173 p2, pre1174 p3, fun1174 p3]
/-- a dyad brought to an odd number -/
def od (s : Bool) (n : Nat) (e : Int) : Bool × Nat × Int := if n = 0 then (false, 0, 0) else (s, n / 2 ^ tz n, e + tz n)
def dyO (t : Bool × Nat × Int) : Dya := dy t.1 t.2.1 t.2.2
theorem od_dy (s : Bool) (n : Nat) (e : Int) : (if n = 0 then dy false 0 0 else dy s (n / 2 ^ tz n) (e + tz n)) = dyO (od s n e) := by
  unfold od dyO
  split <;> rfl
theorem od_cases (s : Bool) (n : Nat) (e : Int) : (od s n e = (false, 0, 0) ∧ n = 0) ∨ ((od s n e).1 = s ∧ (od s n e).2.1 % 2 = 1 ∧ n ≠ 0 ∧ n = 2 ^ tz n * (od s n e).2.1 ∧ (od s n e).2.2 = e + tz n) := by
  unfold od
  by_cases h : n = 0
  · rw [if_pos h]; exact .inl ⟨rfl, h⟩
  · right
    rw [if_neg h]
    obtain ⟨k, hk⟩ := tz_split h
    have hd : n / 2 ^ tz n = 2 * k + 1 := by
      have := Nat.mul_div_cancel_left (2 * k + 1) (Nat.two_pow_pos (tz n))
      rw [← hk] at this
      exact this
    dsimp only
    rw [hd]
    exact ⟨rfl, by omega, h, hk, rfl⟩
theorem tz_le {n k : Nat} (h : n < 2 ^ k) (h0 : n ≠ 0) : tz n < k := by
  obtain ⟨j, hj⟩ := tz_split h0
  have h1 : 2 ^ tz n * 1 ≤ 2 ^ tz n * (2 * j + 1) := Nat.mul_le_mul_left _ (by omega)
  exact (Nat.pow_lt_pow_iff_right (a := 2) (by decide)).1 (by omega)
theorem od_bound (s : Bool) {n k : Nat} (e : Int) (hn : n < 2 ^ k) (he : -20000 ≤ e ∧ e ≤ 20000) : (od s n e).2.1 < 2 ^ k ∧ -20000 ≤ (od s n e).2.2 ∧ (od s n e).2.2 ≤ 20000 + k := by
  rcases od_cases s n e with ⟨h, _⟩ | ⟨_, h2, h3, h4, h5⟩
  · rw [h]; exact ⟨Nat.two_pow_pos _, by dsimp only; omega, by dsimp only; omega⟩
  · have hle : (od s n e).2.1 ≤ n := by
      have := Nat.le_mul_of_pos_left (od s n e).2.1 (Nat.two_pow_pos (tz n))
      omega
    have := tz_le hn h3
    refine ⟨by omega, by omega, by omega⟩
theorem big_lt {n k : Nat} (h : n < 2 ^ k) (hk : k ≤ 64 * 2000) : n < (2 ^ 64) ^ 2000 := by
  rw [pow64]
  exact Nat.lt_of_lt_of_le h (Nat.pow_le_pow_right (by decide) hk)
theorem dy_len {n k : Nat} (h : n < 2 ^ k) (hk : k ≤ 64 * 1000) : (Dw n).length ≤ 1000 := by
  unfold Dw; rw [Wd_len]
  refine dg_len_le (by decide) _ _ ?_
  rw [pow64]
  exact Nat.lt_of_lt_of_le h (Nat.pow_le_pow_right (by decide) hk)
theorem T103_ok (s : Bool) {n k : Nat} (h : n < 2 ^ k) (hk : k ≤ 64 * 1000) (e : Int) (he : -40000 ≤ e ∧ e ≤ 40000) : T103 (dy s n e, ()) = some (0, ()) := by
  show t103 (s, Dw n, e, ()) = _
  unfold t103
  have := dy_len h hk
  dsimp only
  rw [decide_eq_false (p := ((Dw n).length : Int) > 1024) (by omega), decide_eq_false (p := e < -40000) (by omega), decide_eq_false (p := e > 40000) (by omega)]
  rfl
theorem T104_ok (s : Bool) {n : Nat} (h : n < 2 ^ 6000) (e : Int) (he : -20000 ≤ e ∧ e ≤ 20000) : T104 (dy s n e, ()) = some (dyO (od s n e), 0, ()) := by
  show t104 S100.pre S100.F (s, Dw n, e, ()) = _
  unfold t104
  have p0 := T100_dy s (lt5000 (big_lt h (by decide))) e (by omega)
  rw [od_dy] at p0
  have p0 : T100 ((s, Dw n, e, ()), ()) = some (dyO (od s n e), ()) := p0
  have hb := od_bound s e h he
  have hl := dy_len hb.1 (by decide)
  have e1 : decide ((((dyO (od s n e)).2.1.length : Nat) : Int) > 1024) = false := decide_eq_false (by
    show ¬ ((((Dw (od s n e).2.1).length : Nat) : Int) > 1024)
    omega)
  have e2 : decide ((dyO (od s n e)).2.2.1 < -40000) = false := decide_eq_false (by
    show ¬ ((od s n e).2.2 < -40000)
    omega)
  have e3 : decide ((dyO (od s n e)).2.2.1 > 40000) = false := decide_eq_false (by
    show ¬ ((od s n e).2.2 > 40000)
    omega)
  simp only [pre100 p0, fun100 p0, cond_true, e1, e2, e3, cond_false, Bool.or_self]
theorem T143_dw {x y : Nat} (hx : x < (2 ^ 64) ^ 5000) (hy : y < (2 ^ 64) ^ 5000) : T143 (Dw x, Dw y, ()) = some (Dw (x + y), ()) := by
  have h1 : (dg (2 ^ 64) x).length ≤ 5000 := dg_len_le (by decide) _ _ hx
  have h2 : (dg (2 ^ 64) y).length ≤ 5000 := dg_len_le (by decide) _ _ hy
  have := T143_eq (dg (2 ^ 64) x) (dg (2 ^ 64) y) (Dw_ws hx) (Dw_ws hy) (by rw [dg_trim (by decide)]; omega) (by rw [dg_trim (by decide)]; omega)
  rw [nv_Dw, nv_Dw] at this
  exact this
end VL
namespace VL
open Go Vx
theorem Dw_small {x : Nat} (h0 : x ≠ 0) (h : x < 2 ^ 64) : Dw x = (x : Int) :: [] := by
  unfold Dw
  rw [dg_pos (by decide) (by omega), Nat.mod_eq_of_lt h, Nat.div_eq_of_lt h, dg_zero]; rfl
theorem T40_fin {f : Int} {a : Nat} (h : chk f a = 0) (hfin : eF f a ≠ fullF f) : T40 (f, (a : Int), ()) = some (dyO (od (sF f a) (mant f a) (xpn f a)), 0, ()) := by
  obtain ⟨hf, h0⟩ := chk_zero h
  have ha := pat_lt h
  show t40 S66.pre S66.F S90.pre S90.F S91.pre S91.F S92.pre S92.F f a = _
  unfold t40
  have h1 := fP_ge hf
  have h2 := fP_lt hf
  have h3 := fW_le hf
  have h4 := fX_le hf
  have h5 := fP_le hf
  have h6 := fX_ge hf
  have hE := eF_lt hf a
  have hM := mF_lt f a
  have hPp : 2 ^ (fP f - 1) ≤ 2 ^ 52 := Nat.pow_le_pow_right (by decide) (by omega)
  have hpp := Nat.two_pow_pos (fP f - 1)
  have p0 := T66_eq f a ha
  have p1 := T91_eq (fW f - fP f) (by omega)
  have p2 := T90_eq hf a ha
  have hr1 : decide (0 ≤ f) = true := decide_eq_true hf.1
  have hr2 : decide (f < ((4 : Nat) : Int)) = true := decide_eq_true hf.2
  have r1 : (rowOf f).1 = (fW f : Int) := rfl
  have r2 : (rowOf f).2.1 = (fP f : Int) := rfl
  have r3 : (rowOf f).2.2.1 = 1 - (fX f : Int) := rfl
  have e1 : IntKind.wrap .i64 ((fW f : Int) - (fP f : Int)) = ((fW f - fP f : Nat) : Int) := wsubn _ _ (by omega)
  have e2 : IntKind.wrap .i64 ((fP f : Int) - 1) = ((fP f - 1 : Nat) : Int) := wsub1 _ (by omega)
  have e3 : shlI .u64 1 ((fP f - 1 : Nat) : Int) = ((2 ^ (fP f - 1) : Nat) : Int) := shlI_one (by omega)
  have e4 : orI .u64 (mF f a : Int) ((2 ^ (fP f - 1) : Nat) : Int) = ((mF f a + 2 ^ (fP f - 1) : Nat) : Int) := by
    have := orN (a := mF f a) (b := 1) (k := fP f - 1) hM (by omega)
    rwa [Nat.one_mul] at this
  have hfl : (((eF f a : Nat) : Int) == ((2 ^ (fW f - fP f) - 1 : Nat) : Int)) = false := by
    rw [nbeq]; exact beq_eq_false_iff_ne.2 hfin
  have ew : ∀ z : Int, -1000000 ≤ z ∧ z ≤ 1000000 → IntKind.wrap .i64 z = z := fun z hz => wrapI (by omega)
  simp only [row_at hf, r1, r2, r3, hr1, hr2, pre66 p0, fun66 p0, pre90 p2, fun90 p2, h, cond_true, bne_self_eq_false, cond_false, e1, e2, e3, e4, pre91 p1, fun91 p1, hfl, nnn]
  by_cases hz : eF f a = 0
  · have hg : (((eF f a : Nat) : Int) == 0) = true := beq0_t _ hz
    have hm : mant f a = mF f a := by unfold mant; rw [if_pos hz]
    have hx : xpn f a = 1 - (fX f : Int) - (fP f : Int) + 1 := by unfold xpn; rw [if_pos hz, Int.add_zero]
    rw [hg, cond_true, hm, hx]
    by_cases hm0 : mF f a = 0
    · rw [beq0_t _ hm0, cond_true]
      unfold od dyO
      rw [if_pos hm0, dy_zero]
    · obtain ⟨k, hk⟩ := tz_split hm0
      have htl := tz_le (n := mF f a) (k := 53) (by omega) hm0
      have p3 := T92_eq (t := tz (mF f a)) (k := k) (by omega)
      rw [← hk] at p3
      have hq : mF f a / 2 ^ tz (mF f a) ≠ 0 := by
        have := Nat.mul_div_cancel_left (2 * k + 1) (Nat.two_pow_pos (tz (mF f a)))
        rw [← hk] at this
        omega
      have hql := Nat.div_le_self (mF f a) (2 ^ tz (mF f a))
      rw [beq0_f _ hm0, cond_false]
      simp only [pre92 p3, fun92 p3, cond_true, nnn, shrN (mF f a) (tz (mF f a)) (by omega)]
      rw [← Dw_small hq (by omega)]
      unfold od dyO dy
      rw [if_neg hm0]
      rw [ew 1 (by omega), ew (1 - 1) (by omega), ew (1 - 1 + _) (by omega), ew (1 - 1 + _ - _) (by omega), ew (1 - 1 + _ - _ + 1) (by omega), ew _ (by omega)]
      rw [show (1 : Int) - 1 + (1 - (fX f : Int)) - (fP f : Int) + 1 + (tz (mF f a) : Int) = 1 - (fX f : Int) - (fP f : Int) + 1 + (tz (mF f a) : Int) by omega]
  · have hg : (((eF f a : Nat) : Int) == 0) = false := beq0_f _ hz
    have hm : mant f a = mF f a + 2 ^ (fP f - 1) := by unfold mant; rw [if_neg hz]
    have hx : xpn f a = 1 - (fX f : Int) - (fP f : Int) + 1 + ((eF f a : Int) - 1) := by unfold xpn; rw [if_neg hz]
    rw [hg, cond_false, hm, hx]
    have hm0 : mF f a + 2 ^ (fP f - 1) ≠ 0 := by omega
    have hml : mF f a + 2 ^ (fP f - 1) < 2 ^ 54 := by omega
    generalize mF f a + 2 ^ (fP f - 1) = n at *
    obtain ⟨k, hk⟩ := tz_split hm0
    have htl := tz_le hml hm0
    have p3 := T92_eq (t := tz n) (k := k) (by rw [← hk]; omega)
    rw [← hk] at p3
    have hq : n / 2 ^ tz n ≠ 0 := by
      have := Nat.mul_div_cancel_left (2 * k + 1) (Nat.two_pow_pos (tz n))
      rw [← hk] at this
      omega
    have hql := Nat.div_le_self n (2 ^ tz n)
    rw [beq0_f _ hm0, cond_false]
    simp only [pre92 p3, fun92 p3, cond_true, nnn, shrN n (tz n) (by omega)]
    rw [← Dw_small hq (by omega)]
    unfold od dyO dy
    rw [if_neg hm0]
    rw [ew (eF f a : Int) (by omega), ew ((eF f a : Int) - 1) (by omega), ew ((eF f a : Int) - 1 + _) (by omega), ew ((eF f a : Int) - 1 + _ - _) (by omega), ew ((eF f a : Int) - 1 + _ - _ + 1) (by omega), ew _ (by omega)]
    rw [show (eF f a : Int) - 1 + (1 - (fX f : Int)) - (fP f : Int) + 1 + (tz n : Int) = 1 - (fX f : Int) - (fP f : Int) + 1 + ((eF f a : Int) - 1) + (tz n : Int) by omega]
theorem T50_fin {f : Int} {a : Nat} (h : chk f a = 0) (hfin : eF f a ≠ fullF f) : T50 (f, (a : Int), ()) = some (dyO (od (sF f a) (mant f a) (xpn f a)), ()) := by
  show t50 S40.pre S40.F f a = _
  unfold t50
  have p0 := T40_fin h hfin
  simp only [pre40 p0, fun40 p0, cond_true]
end VL
namespace VL
open Go Vx
theorem qm_neg {f : Int} (hf : Fm f) : qm f ≤ 0 := by
  have := fX_ge hf
  have := fP_ge hf
  unfold qm; omega
theorem vI_zero (f : Int) (s : Bool) (e : Int) : vI f s 0 e = 0 := by
  unfold vI; rw [Nat.zero_mul]; cases s <;> rfl
theorem vI_od {f : Int} (hf : Fm f) (s : Bool) (n : Nat) {e : Int} (he : qm f ≤ e) : qm f ≤ (od s n e).2.2 ∧ vI f (od s n e).1 (od s n e).2.1 (od s n e).2.2 = vI f s n e := by
  rcases od_cases s n e with ⟨h, h0⟩ | ⟨h1, h2, h3, h4, h5⟩
  · rw [h, h0, vI_zero, vI_zero]
    exact ⟨qm_neg hf, rfl⟩
  · refine ⟨by omega, ?_⟩
    have e1 : (od s n e).2.1 * 2 ^ ((od s n e).2.2 - qm f).toNat = n * 2 ^ (e - qm f).toNat := by
      rw [h5, show (e + (tz n : Int) - qm f).toNat = tz n + (e - qm f).toNat by omega, Nat.pow_add, ← Nat.mul_assoc, Nat.mul_comm _ (2 ^ tz n), ← h4]
    unfold vI
    rw [e1, h1]
theorem sumD_val {f : Int} (nx : Bool) (X : Nat) (ex : Int) (ny : Bool) (Y : Nat) (ey : Int) (hx : qm f ≤ ex) (hy : qm f ≤ ey) :
    qm f ≤ (sumD nx X ex ny Y ey).2.2 ∧ vI f (sumD nx X ex ny Y ey).1 (sumD nx X ex ny Y ey).2.1 (sumD nx X ex ny Y ey).2.2 = vI f nx X ex + vI f ny Y ey := by
  by_cases h1 : X = 0
  · subst h1
    unfold sumD
    rw [if_pos rfl, vI_zero, Int.zero_add]
    exact ⟨hy, rfl⟩
  by_cases h2 : Y = 0
  · subst h2
    unfold sumD
    rw [if_neg h1, if_pos rfl, vI_zero, Int.add_zero]
    exact ⟨hx, rfl⟩
  obtain ⟨e, he⟩ : ∃ e, (if ey < ex then ey else ex) = e := ⟨_, rfl⟩
  have he2 : e ≤ ex ∧ e ≤ ey ∧ qm f ≤ e := by rw [← he]; split <;> omega
  obtain ⟨a, ha⟩ : ∃ a, X * 2 ^ (ex - e).toNat = a := ⟨_, rfl⟩
  obtain ⟨b, hb⟩ : ∃ b, Y * 2 ^ (ey - e).toNat = b := ⟨_, rfl⟩
  have hD : sumD nx X ex ny Y ey = if nx = ny then (nx, a + b, e) else if b ≤ a then (nx, a - b, e) else (ny, b - a, e) := by
    unfold sumD
    rw [if_neg h1, if_neg h2]
    simp only [he, ha, hb]
  have hA : X * 2 ^ (ex - qm f).toNat = a * 2 ^ (e - qm f).toNat := by
    rw [← ha, Nat.mul_assoc, ← Nat.pow_add]; congr 2; omega
  have hB : Y * 2 ^ (ey - qm f).toNat = b * 2 ^ (e - qm f).toNat := by
    rw [← hb, Nat.mul_assoc, ← Nat.pow_add]; congr 2; omega
  have hsum := Nat.add_mul a b (2 ^ (e - qm f).toNat)
  have hd1 := Nat.sub_mul a b (2 ^ (e - qm f).toNat)
  have hd2 := Nat.sub_mul b a (2 ^ (e - qm f).toNat)
  rw [hD]
  unfold vI
  rw [hA, hB]
  by_cases hn : nx = ny
  · subst hn
    rw [if_pos rfl]
    refine ⟨he2.2.2, ?_⟩
    dsimp only
    rw [hsum]
    cases nx <;> simp only [cond_true, cond_false] <;> omega
  · have hny : ny = !nx := by cases nx <;> cases ny <;> first | rfl | exact absurd rfl hn
    subst hny
    rw [if_neg hn]
    by_cases hle : b ≤ a
    · have := Nat.mul_le_mul_right (2 ^ (e - qm f).toNat) hle
      rw [if_pos hle]
      refine ⟨he2.2.2, ?_⟩
      dsimp only
      rw [hd1]
      cases nx <;> simp only [cond_true, cond_false, Bool.not_true, Bool.not_false] <;> omega
    · have := Nat.mul_le_mul_right (2 ^ (e - qm f).toNat) (show a ≤ b by omega)
      rw [if_neg hle]
      refine ⟨he2.2.2, ?_⟩
      dsimp only
      rw [hd2]
      cases nx <;> simp only [cond_true, cond_false, Bool.not_true, Bool.not_false] <;> omega
theorem T47_eq (s : Bool) {n : Nat} (hn : n < (2 ^ 64) ^ 5000) (e : Int) : T47 (dy s n e, ()) = some (if n = 0 then 0 else if s = true then -1 else 1, ()) := by
  show t47 S102.pre S102.F (s, Dw n, e, ()) = _
  unfold t47
  have p0 := T102_eq (dg (2 ^ 64) n) (Dw_ws hn)
  rw [nv_Dw] at p0
  have p0 : T102 (Dw n, ()) = some (Dw n, ()) := p0
  dsimp only
  simp only [pre102 p0, fun102 p0, cond_true]
  by_cases h : n = 0
  · rw [if_pos h, h, Dw_zero]; rfl
  · have hlen : (((Dw n).length : Int) == 0) = false := beq0_f _ (by have := Dw_len h; omega)
    rw [if_neg h, hlen, cond_false]
    cases s <;> rfl
end VL
namespace VL
open Go Vx
/-- the dyad of a whole number of least steps -/
def cd (f : Int) (S : Int) : Dya := dyO (od (decide (S < 0)) S.natAbs (qm f))
theorem tz_mul {n : Nat} (h : n ≠ 0) (d : Nat) : tz (n * 2 ^ d) = tz n + d := by
  obtain ⟨k, hk⟩ := tz_split h
  have e : n * 2 ^ d = 2 ^ (tz n + d) * (2 * k + 1) := by
    rw [Nat.pow_add, Nat.mul_assoc, Nat.mul_comm (2 ^ d), ← Nat.mul_assoc, ← hk]
  rw [e]; exact tz_of _ _
theorem cd_of {f : Int} (s : Bool) (n : Nat) {e : Int} (he : qm f ≤ e) : dyO (od s n e) = cd f (vI f s n e) := by
  unfold cd
  congr 1
  by_cases h0 : n = 0
  · subst h0
    rw [vI_zero]; rfl
  · have hp := Nat.two_pow_pos (e - qm f).toNat
    have hpos : 0 < n * 2 ^ (e - qm f).toNat := Nat.mul_pos (by omega) hp
    have hs : decide (vI f s n e < 0) = s := by
      unfold vI
      generalize n * 2 ^ (e - qm f).toNat = N at *
      cases s <;> simp only [cond_true, cond_false]
      · exact decide_eq_false (by omega)
      · exact decide_eq_true (by omega)
    have hn : (vI f s n e).natAbs = n * 2 ^ (e - qm f).toNat := by
      unfold vI
      cases s
      · exact Int.natAbs_natCast _
      · exact (Int.natAbs_neg _).trans (Int.natAbs_natCast _)
    rw [hs, hn]
    unfold od
    rw [if_neg h0, if_neg (by omega), tz_mul h0]
    have hd : n * 2 ^ (e - qm f).toNat / 2 ^ (tz n + (e - qm f).toNat) = n / 2 ^ tz n := by
      rw [Nat.pow_add, Nat.mul_div_mul_right _ _ hp]
    rw [hd]
    congr 2
    omega
/-- bounds that the additions keep -/
def Bd (f : Int) (n : Nat) (e : Int) : Prop := qm f ≤ e ∧ e ≤ 6000 ∧ n * 2 ^ (e - qm f).toNat < 2 ^ 5000
theorem qm_ge {f : Int} (hf : Fm f) : -1100 ≤ qm f := by
  have := fX_le hf
  have := fP_le hf
  unfold qm; omega
theorem Bd.lt {f : Int} {n : Nat} {e : Int} (h : Bd f n e) : n < 2 ^ 5000 := by
  have := Nat.le_mul_of_pos_right n (Nat.two_pow_pos (e - qm f).toNat)
  exact Nat.lt_of_le_of_lt this h.2.2
theorem Bd.od {f : Int} (hf : Fm f) {n : Nat} {e : Int} (s : Bool) (h : Bd f n e) : Bd f (VL.od s n e).2.1 (VL.od s n e).2.2 := by
  rcases od_cases s n e with ⟨hz, _⟩ | ⟨_, h2, h3, h4, h5⟩
  · rw [hz]
    exact ⟨qm_neg hf, by dsimp only; omega, by dsimp only; rw [Nat.zero_mul]; exact Nat.two_pow_pos _⟩
  · have hle : 2 ^ (tz n + (e - qm f).toNat) ≤ n * 2 ^ (e - qm f).toNat := by
      rw [Nat.pow_add]
      refine Nat.mul_le_mul_right _ ?_
      have := Nat.le_mul_of_pos_right (2 ^ tz n) (show 0 < (VL.od s n e).2.1 by omega)
      omega
    have hlt := (Nat.pow_lt_pow_iff_right (a := 2) (by decide)).1 (Nat.lt_of_le_of_lt hle h.2.2)
    have hq := qm_neg hf
    have h1 := h.1
    refine ⟨by omega, by omega, ?_⟩
    have e1 : (VL.od s n e).2.1 * 2 ^ ((VL.od s n e).2.2 - qm f).toNat = n * 2 ^ (e - qm f).toNat := by
      rw [h5, show (e + (tz n : Int) - qm f).toNat = tz n + (e - qm f).toNat by omega, Nat.pow_add, ← Nat.mul_assoc, Nat.mul_comm _ (2 ^ tz n), ← h4]
    rw [e1]; exact h.2.2
theorem T142_bd {f : Int} (hf : Fm f) (s : Bool) (X : Nat) (ex : Int) (s' : Bool) (Y : Nat) (ey : Int) (hX : Bd f X ex) (hY : Bd f Y ey) :
    T142 (dy s X ex, dy s' Y ey, ()) = some (Dw (X * 2 ^ (ex - (if ey < ex then ey else ex)).toNat), Dw (Y * 2 ^ (ey - (if ey < ex then ey else ex)).toNat), (if ey < ex then ey else ex), ()) := by
  show t142 S172.pre S172.F (s, Dw X, ex, ()) (s', Dw Y, ey, ()) = _
  unfold t142
  have hq := qm_ge hf
  have x1 := hX.1
  have x2 := hX.2.1
  have y1 := hY.1
  have y2 := hY.2.1
  have he : (if ey < ex then ey else ex) ≤ ex ∧ (if ey < ex then ey else ex) ≤ ey ∧ qm f ≤ (if ey < ex then ey else ex) := by split <;> omega
  dsimp only
  generalize (if ey < ex then ey else ex) = e at *
  obtain ⟨d1, hd1⟩ := Int.eq_ofNat_of_zero_le (show 0 ≤ ex - e by omega)
  obtain ⟨d2, hd2⟩ := Int.eq_ofNat_of_zero_le (show 0 ≤ ey - e by omega)
  have p1 := T172_eq (lt5000 (big_lt hX.lt (by decide))) d1 (by omega)
  have p2 := T172_eq (lt5000 (big_lt hY.lt (by decide))) d2 (by omega)
  have e1 : IntKind.wrap .i64 (d1 : Int) = (d1 : Int) := wrapI (by omega)
  have e2 : IntKind.wrap .i64 (d2 : Int) = (d2 : Int) := wrapI (by omega)
  simp only [hd1, hd2, e1, e2, pre172 p1, fun172 p1, pre172 p2, fun172 p2, cond_true, Int.toNat_natCast]
theorem Bd.sft {f : Int} {X : Nat} {ex e : Int} (h : Bd f X ex) (h1 : e ≤ ex) (h2 : qm f ≤ e) : X * 2 ^ (ex - e).toNat < 2 ^ 5000 := by
  have e1 : X * 2 ^ (ex - qm f).toNat = X * 2 ^ (ex - e).toNat * 2 ^ (e - qm f).toNat := by
    rw [Nat.mul_assoc, ← Nat.pow_add]; congr 2; omega
  have := Nat.le_mul_of_pos_right (X * 2 ^ (ex - e).toNat) (Nat.two_pow_pos (e - qm f).toNat)
  rw [← e1] at this
  exact Nat.lt_of_le_of_lt this h.2.2
/-- the sum as it stands: exact, and canonical where two numbers that aren't zero were added -/
theorem dbl2 (k : Nat) : (2 : Nat) ^ k + 2 ^ k = 2 ^ (k + 1) := by rw [Nat.pow_succ]; omega
theorem T101_bd {f : Int} (hf : Fm f) (nx : Bool) (X : Nat) (ex : Int) (ny : Bool) (Y : Nat) (ey : Int) (hX : Bd f X ex) (hY : Bd f Y ey) :
    ∃ s n e, T101 (dy nx X ex, dy ny Y ey, ()) = some (dy s n e, ()) ∧ qm f ≤ e ∧ e ≤ 12000 ∧ n < 2 ^ 5001 ∧ vI f s n e = vI f nx X ex + vI f ny Y ey := by
  have hq := qm_ge hf
  have hq2 := qm_neg hf
  have x1 := hX.1
  have x2 := hX.2.1
  have y1 := hY.1
  have y2 := hY.2.1
  have big : (2 : Nat) ^ 5000 + 2 ^ 5000 = 2 ^ 5001 := dbl2 5000
  have sv := sumD_val (f := f) nx X ex ny Y ey x1 y1
  by_cases h1 : X = 0
  · refine ⟨ny, Y, ey, ?_, y1, by omega, by have := hY.lt; omega, by rw [h1, vI_zero, Int.zero_add]⟩
    show t101 S142.pre S142.F S143.pre S143.F S144.pre S144.F S145.pre S145.F S100.pre S100.F (nx, Dw X, ex, ()) (ny, Dw Y, ey, ()) = _
    unfold t101
    rw [h1, Dw_zero]; rfl
  have l1 : (((Dw X).length : Int) == 0) = false := beq0_f _ (by have := Dw_len h1; omega)
  by_cases h2 : Y = 0
  · refine ⟨nx, X, ex, ?_, x1, by omega, by have := hX.lt; omega, by rw [h2, vI_zero, Int.add_zero]⟩
    show t101 S142.pre S142.F S143.pre S143.F S144.pre S144.F S145.pre S145.F S100.pre S100.F (nx, Dw X, ex, ()) (ny, Dw Y, ey, ()) = _
    unfold t101
    dsimp only
    rw [l1, cond_false, h2, Dw_zero]; rfl
  have l2 : (((Dw Y).length : Int) == 0) = false := beq0_f _ (by have := Dw_len h2; omega)
  have p0 := T142_bd hf nx X ex ny Y ey hX hY
  have p0 : T142 ((nx, Dw X, ex, ()), (ny, Dw Y, ey, ()), ()) = _ := p0
  obtain ⟨e, he⟩ : ∃ e, (if ey < ex then ey else ex) = e := ⟨_, rfl⟩
  have he2 : e ≤ ex ∧ e ≤ ey ∧ qm f ≤ e := by rw [← he]; split <;> omega
  obtain ⟨a, haa⟩ : ∃ a, X * 2 ^ (ex - e).toNat = a := ⟨_, rfl⟩
  obtain ⟨b, hbb⟩ : ∃ b, Y * 2 ^ (ey - e).toNat = b := ⟨_, rfl⟩
  have k1 := hX.sft he2.1 he2.2.2
  have k2 := hY.sft he2.2.1 he2.2.2
  rw [he, haa, hbb] at p0
  rw [haa] at k1
  rw [hbb] at k2
  have hD : sumD nx X ex ny Y ey = if nx = ny then (nx, a + b, e) else if b ≤ a then (nx, a - b, e) else (ny, b - a, e) := by
    unfold sumD
    rw [if_neg h1, if_neg h2]
    simp only [he, haa, hbb]
  have hDn : (sumD nx X ex ny Y ey).2.1 < 2 ^ 5001 ∧ (sumD nx X ex ny Y ey).2.2 = e := by
    rw [hD]
    split
    · exact ⟨by dsimp only; omega, rfl⟩
    · split
      · exact ⟨by dsimp only; omega, rfl⟩
      · exact ⟨by dsimp only; omega, rfl⟩
  have key : T101 (dy nx X ex, dy ny Y ey, ()) = some (dyO (od (sumD nx X ex ny Y ey).1 (sumD nx X ex ny Y ey).2.1 (sumD nx X ex ny Y ey).2.2), ()) := by
    show t101 S142.pre S142.F S143.pre S143.F S144.pre S144.F S145.pre S145.F S100.pre S100.F (nx, Dw X, ex, ()) (ny, Dw Y, ey, ()) = _
    unfold t101
    dsimp only
    rw [l1, cond_false, l2, cond_false, hD]
    have b1 := lt5000 (big_lt k1 (by decide))
    have b2 := lt5000 (big_lt k2 (by decide))
    have k3 : a + b < 2 ^ 5001 := by omega
    have b3 := lt5000 (big_lt k3 (by decide))
    simp only [pre142 p0, fun142 p0, cond_true]
    by_cases hn : nx = ny
    · subst hn
      have : (nx == nx) = true := by cases nx <;> rfl
      rw [this, cond_true, if_pos rfl]
      have p1 := T143_dw b1 b2
      have p2 := T100_dy nx b3 e (by omega)
      rw [od_dy] at p2
      have p2 : T100 ((nx, Dw (a + b), e, ()), ()) = _ := p2
      simp only [pre143 p1, fun143 p1, pre100 p2, fun100 p2, cond_true]
    · have : (nx == ny) = false := by cases nx <;> cases ny <;> first | rfl | exact absurd rfl hn
      rw [this, cond_false, if_neg hn]
      have p1 := T144_eq b1 b2
      by_cases hle : b ≤ a
      · have p2 := T145_eq b1 hle
        have p3 := T100_dy nx (n := a - b) (by omega) e (by omega)
        rw [od_dy] at p3
        have p3 : T100 ((nx, Dw (a - b), e, ()), ()) = _ := p3
        have z : decide ((if a = b then (0 : Int) else if a < b then -1 else 1) < 0) = false := by
          by_cases hab : a = b
          · rw [if_pos hab]; rfl
          · rw [if_neg hab, if_neg (by omega)]; rfl
        simp only [pre144 p1, fun144 p1, cond_true, z, cond_false, pre145 p2, fun145 p2, pre100 p3, fun100 p3, if_pos hle]
      · have p2 := T145_eq b2 (y := a) (by omega)
        have p3 := T100_dy ny (n := b - a) (by omega) e (by omega)
        rw [od_dy] at p3
        have p3 : T100 ((ny, Dw (b - a), e, ()), ()) = _ := p3
        have z : decide ((if a = b then (0 : Int) else if a < b then -1 else 1) < 0) = true := by
          rw [if_neg (by omega), if_pos (by omega)]; rfl
        simp only [pre144 p1, fun144 p1, cond_true, z, pre145 p2, fun145 p2, pre100 p3, fun100 p3, if_neg hle]
  have ov := vI_od hf (sumD nx X ex ny Y ey).1 (sumD nx X ex ny Y ey).2.1 sv.1
  refine ⟨_, _, _, key, ov.1, ?_, ?_, ov.2.trans sv.2⟩
  · rcases od_cases (sumD nx X ex ny Y ey).1 (sumD nx X ex ny Y ey).2.1 (sumD nx X ex ny Y ey).2.2 with ⟨hz, _⟩ | ⟨_, q2, q3, q4, q5⟩
    · rw [hz]; dsimp only; omega
    · have := tz_le hDn.1 q3
      have := hDn.2
      omega
  · rcases od_cases (sumD nx X ex ny Y ey).1 (sumD nx X ex ny Y ey).2.1 (sumD nx X ex ny Y ey).2.2 with ⟨hz, _⟩ | ⟨_, q2, q3, q4, q5⟩
    · rw [hz]; exact Nat.two_pow_pos _
    · have hle := Nat.le_mul_of_pos_left (od (sumD nx X ex ny Y ey).1 (sumD nx X ex ny Y ey).2.1 (sumD nx X ex ny Y ey).2.2).2.1 (Nat.two_pow_pos (tz (sumD nx X ex ny Y ey).2.1))
      have := hDn.1
      omega
theorem T103_bd {f : Int} (hf : Fm f) (s : Bool) {n : Nat} {e : Int} (h : Bd f n e) : T103 (dy s n e, ()) = some (0, ()) := by
  have := qm_ge hf
  have h1 := h.1
  have h2 := h.2.1
  exact T103_ok s h.lt (by decide) e (by omega)
theorem T99_bd {f : Int} (hf : Fm f) (s : Bool) {n : Nat} {e : Int} (s' : Bool) {n' : Nat} {e' : Int} (h : Bd f n e) (h' : Bd f n' e') : T99 (dy s n e, dy s' n' e', ()) = some (0, ()) := by
  have q1 := T103_bd hf s h
  have q2 := T103_bd hf s' h'
  show t99 S103.pre S103.F (dy s n e) (dy s' n' e') = _
  unfold t99
  have q1 : T103 (((dy s n e).1, (dy s n e).2), ()) = some (0, ()) := q1
  have q2 : T103 (((dy s' n' e').1, (dy s' n' e').2), ()) = some (0, ()) := q2
  simp only [pre103 q1, fun103 q1, pre103 q2, fun103 q2, cond_true, bne_self_eq_false, cond_false]
theorem T100_bd {f : Int} (hf : Fm f) (s : Bool) {n : Nat} {e : Int} (h : Bd f n e) : T100 (dy s n e, ()) = some (dyO (od s n e), ()) := by
  have := qm_ge hf
  have h1 := h.1
  have h2 := h.2.1
  have p := T100_dy s (lt5000 (big_lt h.lt (by decide))) e (by omega)
  rwa [od_dy] at p
theorem T104_cd {f : Int} (hf : Fm f) (s : Bool) {n : Nat} {e : Int} (h1 : qm f ≤ e) (h2 : e ≤ 12000) (hn : n < 2 ^ 5001) : T104 (dy s n e, ()) = some (cd f (vI f s n e), 0, ()) := by
  have := qm_ge hf
  have big : (2 : Nat) ^ 5001 ≤ 2 ^ 6000 := Nat.pow_le_pow_right (by decide) (by decide)
  have p := T104_ok s (Nat.lt_of_lt_of_le hn big) e (by omega)
  rwa [cd_of s n h1] at p
/-- Add -/
theorem T49_cd {f : Int} (hf : Fm f) (s1 : Bool) {n1 : Nat} {e1 : Int} (s2 : Bool) {n2 : Nat} {e2 : Int} (h1 : Bd f n1 e1) (h2 : Bd f n2 e2) :
    T49 (dy s1 n1 e1, dy s2 n2 e2, ()) = some (cd f (vI f s1 n1 e1 + vI f s2 n2 e2), 0, ()) := by
  show t49 S99.pre S99.F S100.pre S100.F S101.pre S101.F S104.pre S104.F (dy s1 n1 e1) (dy s2 n2 e2) = _
  unfold t49
  have p99 := T99_bd hf s1 s2 h1 h2
  have i1 := T100_bd hf s1 h1
  have i2 := T100_bd hf s2 h2
  have v1 := vI_od hf s1 n1 h1.1
  have v2 := vI_od hf s2 n2 h2.1
  obtain ⟨s, n, e, p101, g1, g2, g3, g4⟩ := T101_bd hf (od s1 n1 e1).1 (od s1 n1 e1).2.1 (od s1 n1 e1).2.2 (od s2 n2 e2).1 (od s2 n2 e2).2.1 (od s2 n2 e2).2.2 (h1.od hf s1) (h2.od hf s2)
  rw [v1.2, v2.2] at g4
  have p104 := T104_cd hf s g1 g2 g3
  rw [g4] at p104
  have p99 : T99 (((dy s1 n1 e1).1, (dy s1 n1 e1).2), ((dy s2 n2 e2).1, (dy s2 n2 e2).2), ()) = some (0, ()) := p99
  have i1 : T100 (((dy s1 n1 e1).1, (dy s1 n1 e1).2), ()) = some (dyO (od s1 n1 e1), ()) := i1
  have i2 : T100 (((dy s2 n2 e2).1, (dy s2 n2 e2).2), ()) = some (dyO (od s2 n2 e2), ()) := i2
  have p101 : T101 (dyO (od s1 n1 e1), dyO (od s2 n2 e2), ()) = some (dy s n e, ()) := p101
  simp only [pre99 p99, fun99 p99, pre100 i1, fun100 i1, pre100 i2, fun100 i2, pre101 p101, fun101 p101, pre104 p104, fun104 p104, cond_true, bne_self_eq_false, cond_false]
theorem vI_not (f : Int) (s : Bool) (n : Nat) (e : Int) : vI f (!s) n e = -vI f s n e := by
  unfold vI; cases s <;> simp
/-- Neg -/
theorem T48_cd {f : Int} (hf : Fm f) (s : Bool) {n : Nat} {e : Int} (h : Bd f n e) : T48 (dy s n e, ()) = some (cd f (-vI f s n e), 0, ()) := by
  show t48 S103.pre S103.F S104.pre S104.F (dy s n e) = _
  unfold t48
  have q1 := T103_bd hf s h
  have hlt := h.lt
  have big : (2 : Nat) ^ 5000 ≤ 2 ^ 5001 := Nat.pow_le_pow_right (by decide) (by decide)
  have h2 := h.2.1
  have p := T104_cd hf (!s) h.1 (by omega) (Nat.lt_of_lt_of_le hlt big)
  rw [vI_not] at p
  have q1 : T103 (((dy s n e).1, (dy s n e).2), ()) = some (0, ()) := q1
  have p : T104 ((!(dy s n e).1, (dy s n e).2), ()) = some (cd f (-vI f s n e), 0, ()) := p
  simp only [pre103 q1, fun103 q1, cond_true, bne_self_eq_false, cond_false, pre104 p, fun104 p]
/-- Sub -/
theorem T44_cd {f : Int} (hf : Fm f) (s1 : Bool) {n1 : Nat} {e1 : Int} (s2 : Bool) {n2 : Nat} {e2 : Int} (h1 : Bd f n1 e1) (h2 : Bd f n2 e2) :
    T44 (dy s1 n1 e1, dy s2 n2 e2, ()) = some (cd f (vI f s1 n1 e1 - vI f s2 n2 e2), 0, ()) := by
  show t44 S49.pre S49.F (dy s1 n1 e1) (dy s2 n2 e2) = _
  unfold t44
  have p := T49_cd hf s1 (!s2) h1 h2
  rw [vI_not, ← Int.sub_eq_add_neg] at p
  have p : T49 (((dy s1 n1 e1).1, (dy s1 n1 e1).2), (!(dy s2 n2 e2).1, (dy s2 n2 e2).2), ()) = _ := p
  simp only [pre49 p, fun49 p, cond_true]
theorem sign_val {f : Int} (s : Bool) (n : Nat) (e : Int) : (if n = 0 then (0 : Int) else if s = true then -1 else 1) = (if vI f s n e = 0 then 0 else if vI f s n e < 0 then -1 else 1) := by
  by_cases h : n = 0
  · subst h
    rw [vI_zero, if_pos rfl, if_pos rfl]
  · have hpos := Nat.mul_pos (show 0 < n by omega) (Nat.two_pow_pos (e - qm f).toNat)
    rw [if_neg h]
    unfold vI
    generalize n * 2 ^ (e - qm f).toNat = N at *
    cases s <;> simp only [cond_true, cond_false]
    · rw [if_neg (by simp), if_neg (by omega), if_neg (by omega)]
    · rw [if_pos trivial, if_neg (by omega), if_pos (by omega)]
/-- Cmp -/
theorem T46_cd {f : Int} (hf : Fm f) (s1 : Bool) {n1 : Nat} {e1 : Int} (s2 : Bool) {n2 : Nat} {e2 : Int} (h1 : Bd f n1 e1) (h2 : Bd f n2 e2) :
    T46 (dy s1 n1 e1, dy s2 n2 e2, ()) = some ((if vI f s1 n1 e1 = vI f s2 n2 e2 then 0 else if vI f s1 n1 e1 < vI f s2 n2 e2 then -1 else 1), 0, ()) := by
  show t46 S99.pre S99.F S100.pre S100.F S101.pre S101.F S47.pre S47.F (dy s1 n1 e1) (dy s2 n2 e2) = _
  unfold t46
  have p99 := T99_bd hf s1 s2 h1 h2
  have i1 := T100_bd hf s1 h1
  have i2 := T100_bd hf s2 h2
  have v1 := vI_od hf s1 n1 h1.1
  have v2 := vI_od hf s2 n2 h2.1
  obtain ⟨s, n, e, p101, g1, g2, g3, g4⟩ := T101_bd hf (od s1 n1 e1).1 (od s1 n1 e1).2.1 (od s1 n1 e1).2.2 (!(od s2 n2 e2).1) (od s2 n2 e2).2.1 (od s2 n2 e2).2.2 (h1.od hf s1) (h2.od hf s2)
  rw [vI_not, v1.2, v2.2] at g4
  have p47 := T47_eq s (lt5000 (big_lt g3 (by decide))) e
  rw [sign_val (f := f), g4] at p47
  have p99 : T99 (((dy s1 n1 e1).1, (dy s1 n1 e1).2), ((dy s2 n2 e2).1, (dy s2 n2 e2).2), ()) = some (0, ()) := p99
  have i1 : T100 (((dy s1 n1 e1).1, (dy s1 n1 e1).2), ()) = some (dyO (od s1 n1 e1), ()) := i1
  have i2 : T100 (((dy s2 n2 e2).1, (dy s2 n2 e2).2), ()) = some (dyO (od s2 n2 e2), ()) := i2
  have p101 : T101 (dyO (od s1 n1 e1), (!(dyO (od s2 n2 e2)).1, (dyO (od s2 n2 e2)).2), ()) = some (dy s n e, ()) := p101
  simp only [pre99 p99, fun99 p99, pre100 i1, fun100 i1, pre100 i2, fun100 i2, pre101 p101, fun101 p101, pre47 p47, fun47 p47, cond_true, bne_self_eq_false, cond_false]
  congr 2
  by_cases hA : vI f s1 n1 e1 = vI f s2 n2 e2
  · rw [if_pos hA, if_pos (by omega)]
  · rw [if_neg hA, if_neg (by omega)]
    by_cases hB : vI f s1 n1 e1 < vI f s2 n2 e2
    · rw [if_pos hB, if_pos (by omega)]
    · rw [if_neg hB, if_neg (by omega)]
/-- a canonical dyad's parts -/
theorem cd_parts {f : Int} (hf : Fm f) {S : Int} (h : S.natAbs < 2 ^ 5000) : ∃ s n e, cd f S = dy s n e ∧ Bd f n e ∧ vI f s n e = S := by
  have hb : Bd f S.natAbs (qm f) := ⟨Int.le_refl _, by have := qm_neg hf; omega, by rw [Int.sub_self]; simpa using h⟩
  refine ⟨_, _, _, rfl, hb.od hf _, ?_⟩
  rw [(vI_od hf (decide (S < 0)) S.natAbs (Int.le_refl (qm f))).2]
  unfold vI
  rw [Int.sub_self]
  by_cases hS : S < 0
  · rw [decide_eq_true hS]; simp; omega
  · rw [decide_eq_false hS]; simp; omega
theorem add_cd {f : Int} (hf : Fm f) {S T : Int} (h1 : S.natAbs < 2 ^ 5000) (h2 : T.natAbs < 2 ^ 5000) : T49 (cd f S, cd f T, ()) = some (cd f (S + T), 0, ()) := by
  obtain ⟨s, n, e, a1, a2, a3⟩ := cd_parts hf h1
  obtain ⟨s', n', e', b1, b2, b3⟩ := cd_parts hf h2
  rw [a1, b1, T49_cd hf s s' a2 b2, a3, b3]
theorem sub_cd {f : Int} (hf : Fm f) {S T : Int} (h1 : S.natAbs < 2 ^ 5000) (h2 : T.natAbs < 2 ^ 5000) : T44 (cd f S, cd f T, ()) = some (cd f (S - T), 0, ()) := by
  obtain ⟨s, n, e, a1, a2, a3⟩ := cd_parts hf h1
  obtain ⟨s', n', e', b1, b2, b3⟩ := cd_parts hf h2
  rw [a1, b1, T44_cd hf s s' a2 b2, a3, b3]
theorem neg_cd {f : Int} (hf : Fm f) {S : Int} (h1 : S.natAbs < 2 ^ 5000) : T48 (cd f S, ()) = some (cd f (-S), 0, ()) := by
  obtain ⟨s, n, e, a1, a2, a3⟩ := cd_parts hf h1
  rw [a1, T48_cd hf s a2, a3]
theorem cmp_cd {f : Int} (hf : Fm f) {S T : Int} (h1 : S.natAbs < 2 ^ 5000) (h2 : T.natAbs < 2 ^ 5000) : T46 (cd f S, cd f T, ()) = some ((if S = T then 0 else if S < T then -1 else 1), 0, ()) := by
  obtain ⟨s, n, e, a1, a2, a3⟩ := cd_parts hf h1
  obtain ⟨s', n', e', b1, b2, b3⟩ := cd_parts hf h2
  rw [a1, b1, T46_cd hf s s' a2 b2, a3, b3]
theorem sgn_cd {f : Int} (hf : Fm f) {S : Int} (h1 : S.natAbs < 2 ^ 5000) : T47 (cd f S, ()) = some ((if S = 0 then 0 else if S < 0 then -1 else 1), ()) := by
  obtain ⟨s, n, e, a1, a2, a3⟩ := cd_parts hf h1
  rw [a1, T47_eq s (lt5000 (big_lt a2.lt (by decide))) e, sign_val (f := f), a3]
theorem val_cd {f : Int} {a : Nat} (h : chk f a = 0) (hfin : eF f a ≠ fullF f) : T40 (f, (a : Int), ()) = some (cd f (vA f a), 0, ()) ∧ T50 (f, (a : Int), ()) = some (cd f (vA f a), ()) := by
  have h1 := T40_fin h hfin
  have h2 := T50_fin h hfin
  rw [cd_of _ _ (xpn_ge f a)] at h1 h2
  exact ⟨h1, h2⟩
end VL
namespace VL
open Go Vx
theorem mant_ltP {f : Int} (hf : Fm f) (a : Nat) : mant f a < 2 ^ fP f := by
  have h1 := mF_lt f a
  have h2 := two_P hf
  have hpp := Nat.two_pow_pos (fP f - 1)
  unfold mant
  split <;> omega
theorem sft_bound {f : Int} (hf : Fm f) (a : Nat) : (xpn f a - qm f).toNat ≤ 2047 := by
  have h1 := eF_lt hf a
  unfold xpn qm
  split <;> omega
theorem vA_abs (f : Int) (a : Nat) : (vA f a).natAbs = mant f a * 2 ^ (xpn f a - qm f).toNat := by
  unfold vA vI
  cases sF f a
  · exact Int.natAbs_natCast _
  · exact (Int.natAbs_neg _).trans (Int.natAbs_natCast _)
theorem vA_bound {f : Int} (hf : Fm f) (a : Nat) : (vA f a).natAbs < 2 ^ 2100 := by
  rw [vA_abs]
  have h1 : mant f a * 2 ^ (xpn f a - qm f).toNat < 2 ^ 53 * 2 ^ (xpn f a - qm f).toNat := Nat.mul_lt_mul_of_pos_right (mant_lt hf a) (Nat.two_pow_pos _)
  rw [← Nat.pow_add] at h1
  have := sft_bound hf a
  exact Nat.lt_of_lt_of_le h1 (Nat.pow_le_pow_right (by decide) (by omega))
theorem vA_neg {f : Int} (hf : Fm f) (b : Nat) : vI f (sF f (negF f b)) (mant f (negF f b)) (xpn f (negF f b)) = -vA f b := by
  unfold vA
  rw [mant_neg hf, xpn_neg hf, neg_sgn, vI_not]
/-- a pattern's magnitude, of a whole number of least steps that is a number of the format -/
def magX (f : Int) (n : Nat) : Nat := if n < 2 ^ fP f then n else (blen n - fP f) * 2 ^ (fP f - 1) + n / 2 ^ (blen n - fP f)
theorem mu_exact {f m : Int} (s : Bool) {n : Nat} (hex : ¬ n < 2 ^ fP f → n % 2 ^ (blen n - fP f) = 0) : muM f m s n = magX f n := by
  unfold muM magX
  by_cases h : n < 2 ^ fP f
  · rw [if_pos h, if_pos h]
  · rw [if_neg h, if_neg h]
    unfold cutJ
    rw [hex h, if_neg (fun hh => hh.1 rfl)]
theorem rnd_exact {f : Int} (hf : Fm f) (m : Int) (s : Bool) {n : Nat} (h0 : n ≠ 0) (hex : ¬ n < 2 ^ fP f → n % 2 ^ (blen n - fP f) = 0) (hlt : magX f n < infF f) : rndM f m s n (qm f) = (magX f n, 0) := by
  rw [rndM_mu hf m s h0, mu_exact s hex, if_neg (by omega)]
  by_cases h : n < 2 ^ fP f
  · rw [if_pos h]
  · rw [if_neg h, hex h]; rfl
theorem val_magX {f : Int} (hf : Fm f) (s : Bool) {n : Nat} (hex : ¬ n < 2 ^ fP f → n % 2 ^ (blen n - fP f) = 0) (hlt : magX f n < infF f) :
    chk f (mkF f s (magX f n)) = 0 ∧ eF f (mkF f s (magX f n)) ≠ fullF f ∧ vA f (mkF f s (magX f n)) = bif s then -(n : Int) else n := by
  have hw := Nat.lt_trans hlt (infF_lt hf)
  have hpp := Nat.two_pow_pos (fP f - 1)
  have h2p := two_P hf
  have he : eF f (mkF f s (magX f n)) = magX f n / 2 ^ (fP f - 1) := by rw [eF_abs hf, mk_abs s hw]
  have hm : mF f (mkF f s (magX f n)) = magX f n % 2 ^ (fP f - 1) := by rw [mF_abs hf, mk_abs s hw]
  have hs := mk_sgn s hw
  refine ⟨mk_chk hf s hw, ?_, ?_⟩
  · rw [he]
    have : magX f n / 2 ^ (fP f - 1) < fullF f := by
      rw [Nat.div_lt_iff_lt_mul hpp, Nat.mul_comm]; exact hlt
    omega
  · have key : mant f (mkF f s (magX f n)) * 2 ^ (xpn f (mkF f s (magX f n)) - qm f).toNat = n := by
      unfold mant xpn
      rw [he, hm]
      have hqd : qm f = 1 - (fX f : Int) - (fP f : Int) + 1 := rfl
      by_cases h : n < 2 ^ fP f
      · have hmag : magX f n = n := by unfold magX; rw [if_pos h]
        rw [hmag]
        rcases Nat.lt_or_ge n (2 ^ (fP f - 1)) with h1 | h1
        · rw [Nat.div_eq_of_lt h1, if_pos rfl, if_pos rfl, Nat.mod_eq_of_lt h1, Int.add_zero, ← hqd, Int.sub_self]; simp
        · have hd : n / 2 ^ (fP f - 1) = 1 := by
            have e : n = (n - 2 ^ (fP f - 1)) + 2 ^ (fP f - 1) * 1 := by omega
            rw [e, Nat.add_mul_div_left _ _ hpp, Nat.div_eq_of_lt (by omega)]
          have hmd := Nat.div_add_mod n (2 ^ (fP f - 1))
          rw [hd] at hmd ⊢
          rw [if_neg (by decide), if_neg (by decide), ← hqd, show (qm f + (((1 : Nat) : Int) - 1) - qm f).toNat = 0 by omega, Nat.pow_zero, Nat.mul_one]
          omega
      · obtain ⟨hj1, hq1, hq2⟩ := quo_bound hf h
        have hex' := hex h
        have hmag : magX f n = (blen n - fP f) * 2 ^ (fP f - 1) + n / 2 ^ (blen n - fP f) := by unfold magX; rw [if_neg h]
        have hdm := Nat.div_add_mod n (2 ^ (blen n - fP f))
        rw [hmag]
        generalize blen n - fP f = j at *
        generalize n / 2 ^ j = Q at *
        have e : j * 2 ^ (fP f - 1) + Q = (Q - 2 ^ (fP f - 1)) + 2 ^ (fP f - 1) * (j + 1) := by rw [Nat.mul_add, Nat.mul_one, Nat.mul_comm j]; omega
        have hd : (j * 2 ^ (fP f - 1) + Q) / 2 ^ (fP f - 1) = j + 1 := by
          rw [e, Nat.add_mul_div_left _ _ hpp, Nat.div_eq_of_lt (by omega), Nat.zero_add]
        have hr : (j * 2 ^ (fP f - 1) + Q) % 2 ^ (fP f - 1) = Q - 2 ^ (fP f - 1) := by
          rw [e, Nat.add_mul_mod_self_left, Nat.mod_eq_of_lt (by omega)]
        rw [hd, hr, if_neg (by omega), if_neg (by omega), ← hqd, show (qm f + (((j + 1 : Nat) : Int) - 1) - qm f).toNat = j by omega, Nat.sub_add_cancel (by omega), Nat.mul_comm]
        omega
    unfold vA vI
    rw [key, hs]
theorem mag_lt {f : Int} (hf : Fm f) {a : Nat} (ha : chk f a = 0) (fa : eF f a ≠ fullF f) (h0 : mant f a ≠ 0) {n : Nat} (hn : n ≠ 0) (hle : n ≤ (vA f a).natAbs) (hex : ¬ n < 2 ^ fP f → n % 2 ^ (blen n - fP f) = 0) : magX f n < infF f := by
  have hr := rnd_self (m := 0) hf ha fa h0
  rw [rnd_qm hf 0 (sF f a) h0 (xpn_ge f a), ← vA_abs] at hr
  have h2 : (rndM f 0 (sF f a) (vA f a).natAbs (qm f)).2 = 0 := congrArg Prod.snd hr
  rw [rndM_mu hf 0 (sF f a) (by omega)] at h2
  have hmu : muM f 0 (sF f a) (vA f a).natAbs < infF f := by
    rcases Nat.lt_or_ge (muM f 0 (sF f a) (vA f a).natAbs) (infF f) with h | h
    · exact h
    · rw [if_pos h] at h2; cases h2
  have := mu_mono hf (m := 0) (by omega) (sF f a) hle
  rw [mu_exact (sF f a) hex] at this
  omega
theorem blen_mul {N k P : Nat} (h : N < 2 ^ P) : N * 2 ^ k < 2 ^ (P + k) := by
  rw [Nat.pow_add]; exact Nat.mul_lt_mul_of_pos_right h (Nat.two_pow_pos k)
/-- a multiple of 2^k of few digits is exact -/
theorem exact_of {f : Int} {n N k : Nat} (hn : n = N * 2 ^ k) (hN : N < 2 ^ fP f) : ¬ n < 2 ^ fP f → n % 2 ^ (blen n - fP f) = 0 := fun _ => by
  have hb := blen_bound (n := n) (k := fP f + k) (by rw [hn]; exact blen_mul hN)
  obtain ⟨d, hd⟩ : ∃ d, k = d + (blen n - fP f) := ⟨k - (blen n - fP f), by omega⟩
  have e : n = N * 2 ^ d * 2 ^ (blen n - fP f) := by
    rw [Nat.mul_assoc, ← Nat.pow_add, ← hd]; exact hn
  have := Nat.mul_mod_left (N * 2 ^ d) (2 ^ (blen n - fP f))
  rw [← e] at this
  exact this
theorem vA_mul (f : Int) (a : Nat) : vA f a = (bif sF f a then -(mant f a : Int) else mant f a) * ((2 ^ (xpn f a - qm f).toNat : Nat) : Int) := by
  unfold vA vI
  cases sF f a
  · simp only [cond_false]; rw [Int.natCast_mul]
  · simp only [cond_true]; rw [Int.natCast_mul, Int.neg_mul]
theorem diff_form {f : Int} (hf : Fm f) {a b : Nat} (h1 : (vA f a - vA f b).natAbs ≤ (vA f a).natAbs) (h2 : (vA f a - vA f b).natAbs ≤ (vA f b).natAbs) : ∃ N k, (vA f a - vA f b).natAbs = N * 2 ^ k ∧ N < 2 ^ fP f := by
  have ga := vA_mul f a
  have gb := vA_mul f b
  have la := vA_abs f a
  have lb := vA_abs f b
  have pa := mant_ltP hf a
  have pb := mant_ltP hf b
  generalize (bif sF f a then -(mant f a : Int) else (mant f a : Int)) = A at *
  generalize (bif sF f b then -(mant f b : Int) else (mant f b : Int)) = B at *
  generalize (xpn f a - qm f).toNat = ka at *
  generalize (xpn f b - qm f).toNat = kb at *
  rcases Nat.le_total ka kb with hk | hk
  · obtain ⟨d, rfl⟩ : ∃ d, kb = ka + d := ⟨kb - ka, by omega⟩
    have e : vA f a - vA f b = (A - B * ((2 ^ d : Nat) : Int)) * ((2 ^ ka : Nat) : Int) := by
      rw [ga, gb, Nat.pow_add, Int.natCast_mul, Int.sub_mul, Int.mul_assoc, Int.mul_comm ((2 ^ d : Nat) : Int)]
    refine ⟨(A - B * ((2 ^ d : Nat) : Int)).natAbs, ka, ?_, ?_⟩
    · rw [e, Int.natAbs_mul, Int.natAbs_natCast]
    · have h3 : (A - B * ((2 ^ d : Nat) : Int)).natAbs * 2 ^ ka ≤ mant f a * 2 ^ ka := by
        rw [← la]
        rw [e, Int.natAbs_mul, Int.natAbs_natCast] at h1
        exact h1
      have := Nat.le_of_mul_le_mul_right h3 (Nat.two_pow_pos ka)
      omega
  · obtain ⟨d, rfl⟩ : ∃ d, ka = kb + d := ⟨ka - kb, by omega⟩
    have e : vA f a - vA f b = (A * ((2 ^ d : Nat) : Int) - B) * ((2 ^ kb : Nat) : Int) := by
      rw [ga, gb, Nat.pow_add, Int.natCast_mul, Int.sub_mul, Int.mul_assoc, Int.mul_comm ((2 ^ d : Nat) : Int)]
    refine ⟨(A * ((2 ^ d : Nat) : Int) - B).natAbs, kb, ?_, ?_⟩
    · rw [e, Int.natAbs_mul, Int.natAbs_natCast]
    · have h3 : (A * ((2 ^ d : Nat) : Int) - B).natAbs * 2 ^ kb ≤ mant f b * 2 ^ kb := by
        rw [← lb]
        rw [e, Int.natAbs_mul, Int.natAbs_natCast] at h2
        exact h2
      have := Nat.le_of_mul_le_mul_right h3 (Nat.two_pow_pos kb)
      omega
/-- of close numbers the difference is exact -/
theorem close_sub {f m : Int} (hf : Fm f) {a b : Nat} (ha : chk f a = 0) (fa : eF f a ≠ fullF f) (fb : eF f b ≠ fullF f) (h1 : (vA f a - vA f b).natAbs ≤ (vA f a).natAbs) (h2 : (vA f a - vA f b).natAbs ≤ (vA f b).natAbs) :
    ∃ x, addN f m a (negF f b) = (x, 0) ∧ chk f x = 0 ∧ eF f x ≠ fullF f ∧ vA f x = vA f a - vA f b := by
  obtain ⟨w1, w2, w3⟩ := part_vals fa
  obtain ⟨x1, x2, x3⟩ := part_vals (f := f) (a := negF f b) (by rw [eF_neg hf]; exact fb)
  have hadd : addN f m a (negF f b) = sumBits f m (sF f a) (mant f a) (xpn f a) (sF f (negF f b)) (mant f (negF f b)) (xpn f (negF f b)) := by
    unfold addN
    rw [w1, w2, w3, x1, x2, x3]; rfl
  obtain ⟨hz, hnz⟩ := sum_form hf (sF f a) (mant f a) (xpn f a) (sF f (negF f b)) (mant f (negF f b)) (xpn f (negF f b)) (xpn_ge f a) (xpn_ge f _)
  rw [vA_neg hf, show vI f (sF f a) (mant f a) (xpn f a) = vA f a from rfl, ← Int.sub_eq_add_neg] at hz hnz
  rw [hadd]
  by_cases h0 : vA f a - vA f b = 0
  · obtain ⟨s, hs⟩ := hz h0 m
    obtain ⟨z1, z2, z3, _⟩ := zero_vals hf s
    refine ⟨_, hs, ?_, ?_, ?_⟩
    · rw [sgn_zero]; exact z1
    · rw [sgn_zero, z2]; have := full_pos hf; omega
    · rw [sgn_zero, h0]
      unfold vA
      rw [z3, vI_zero]
  · obtain ⟨N, k, hN, hNP⟩ := diff_form hf h1 h2
    have hex := exact_of hN hNP
    have hn0 : (vA f a - vA f b).natAbs ≠ 0 := by omega
    have hm0 : mant f a ≠ 0 := fun h => by
      have := vA_abs f a
      rw [h, Nat.zero_mul] at this
      omega
    have hlt := mag_lt hf ha fa hm0 hn0 h1 hex
    obtain ⟨v1, v2, v3⟩ := val_magX hf (decide (vA f a - vA f b < 0)) hex hlt
    refine ⟨_, by rw [hnz h0 m, rnd_exact hf m _ hn0 hex hlt], v1, v2, ?_⟩
    rw [v3]
    by_cases hS : vA f a - vA f b < 0
    · rw [decide_eq_true hS]; simp only [cond_true]; omega
    · rw [decide_eq_false hS]; simp only [cond_false]; omega
end VL
namespace VL
open Go Vx
/-- a fact that omega doesn't look into -/
structure Hid (p : Prop) : Prop where
  out : p
def sgI (S : Int) : Int := if S = 0 then 0 else if S < 0 then -1 else 1
def cmI (S T : Int) : Int := if S = T then 0 else if S < T then -1 else 1
theorem cmI_gt (S T : Int) : decide (cmI S T > 0) = decide (T < S) := by
  unfold cmI
  by_cases h : S = T
  · rw [if_pos h, decide_eq_false (by omega), decide_eq_false (by omega)]
  · rw [if_neg h]
    by_cases h2 : S < T
    · rw [if_pos h2, decide_eq_false (by omega), decide_eq_false (by omega)]
    · rw [if_neg h2, decide_eq_true (by omega), decide_eq_true (by omega)]
theorem sgI_lt (S : Int) : decide (sgI S < 0) = decide (S < 0) := by
  unfold sgI
  by_cases h : S = 0
  · rw [if_pos h, decide_eq_false (by omega), decide_eq_false (by omega)]
  · rw [if_neg h]
    by_cases h2 : S < 0
    · rw [if_pos h2, decide_eq_true h2]; rfl
    · rw [if_neg h2, decide_eq_false h2]; rfl
theorem sgI_same {S T : Int} (h : sgI S = sgI T) : (S = 0 ∧ T = 0) ∨ (S < 0 ∧ T < 0) ∨ (0 < S ∧ 0 < T) := by
  unfold sgI at h
  by_cases h1 : S = 0
  · rw [if_pos h1] at h
    by_cases h2 : T = 0
    · exact .inl ⟨h1, h2⟩
    · rw [if_neg h2] at h
      by_cases h3 : T < 0
      · rw [if_pos h3] at h; omega
      · rw [if_neg h3] at h; omega
  · rw [if_neg h1] at h
    by_cases h4 : S < 0
    · rw [if_pos h4] at h
      by_cases h2 : T = 0
      · rw [if_pos h2] at h; omega
      · rw [if_neg h2] at h
        by_cases h3 : T < 0
        · exact .inr (.inl ⟨h4, h3⟩)
        · rw [if_neg h3] at h; omega
    · rw [if_neg h4] at h
      by_cases h2 : T = 0
      · rw [if_pos h2] at h; omega
      · rw [if_neg h2] at h
        by_cases h3 : T < 0
        · rw [if_pos h3] at h; omega
        · exact .inr (.inr ⟨by omega, by omega⟩)
theorem T12_true (F M : Int) (A B C : Nat) : T12 ((F, M, (A : Int), (B : Int), (C : Int), ()), ()) = some (true, ()) := by
  show t12 S24.pre S24.F S29.pre S29.F S44.pre S44.F S47.pre S47.F S48.pre S48.F S31.pre S31.F S36.pre S36.F S40.pre S40.F S49.pre S49.F S50.pre S50.F S46.pre S46.F (F, M, (A : Int), (B : Int), (C : Int), ()) = _
  unfold t12
  obtain ⟨f, m, a, b, c, hf, hm, ha, hb, hc, p29⟩ := T29_ok F M A B C
  have p36a := T36_eq hf ha
  have p36b := T36_eq hf hb
  simp only [pre24 t24_true, fun24 t24_true, cond_true, Bool.not_true, cond_false, pre29 p29, fun29 p29, pre36 p36a, fun36 p36a, pre36 p36b, fun36 p36b, Bool.true_or]
  by_cases fa : eF f a ≠ fullF f
  · by_cases fb : eF f b ≠ fullF f
    · rw [decide_eq_true fa, decide_eq_true fb, Bool.not_true, Bool.or_self, cond_false]
      obtain ⟨p40a, p50a⟩ := val_cd ha fa
      obtain ⟨p40b, p50b⟩ := val_cd hb fb
      have ba := vA_bound hf a
      have bb := vA_bound hf b
      have hclose := Hid.mk (close_sub (m := m) hf ha fa fb)
      have p31 := T31_ok hf hm ha hb
      generalize vA f a = S at *
      generalize vA f b = T at *
      have big : (2 : Nat) ^ 2100 * 8 ≤ 2 ^ 5000 := by
        rw [show (8 : Nat) = 2 ^ 3 from rfl, ← Nat.pow_add]
        exact Nat.pow_le_pow_right (by decide) (by decide)
      have p47a := sgn_cd hf (S := S) (by omega)
      have p47b := sgn_cd hf (S := T) (by omega)
      rw [show (if S = 0 then (0 : Int) else if S < 0 then -1 else 1) = sgI S from rfl] at p47a
      rw [show (if T = 0 then (0 : Int) else if T < 0 then -1 else 1) = sgI T from rfl] at p47b
      have z0 : ((0 : Int) != 0) = false := rfl
      simp only [pre40 p40a, fun40 p40a, pre40 p40b, fun40 p40b, cond_true, pre47 p47a, fun47 p47a, pre47 p47b, fun47 p47b, Bool.true_or, z0, Bool.or_self, Bool.false_or]
      by_cases hsg : sgI S = sgI T
      · have hne : (sgI S != sgI T) = false := by rw [hsg]; simp
        rw [hne, cond_false]
        have p44 := sub_cd hf (S := S) (T := T) (by omega) (by omega)
        have p48 := neg_cd hf (S := S - T) (by omega)
        have last : Hid (∀ x : Nat, addN f m a (negF f b) = (x, 0) → chk f x = 0 → eF f x ≠ fullF f → vA f x = S - T →
            T31 (f, m, (a : Int), (b : Int), ()) = some ((x : Int), 0, true, ()) ∧ T36 (f, (x : Int), ()) = some (true, ()) ∧ T40 (f, (x : Int), ()) = some (cd f (S - T), 0, ()) ∧ T49 (cd f (S - T), cd f T, ()) = some (cd f S, 0, ()) ∧ T46 (cd f S, cd f S, ()) = some (0, 0, ())) := Hid.mk fun x e1 e2 e3 e4 => by
          rw [e1] at p31
          have q36 := T36_eq hf e2
          rw [decide_eq_true e3] at q36
          have q40 := (val_cd e2 e3).1
          rw [e4] at q40
          have q49 := add_cd hf (S := S - T) (T := T) (by omega) (by omega)
          rw [Int.sub_add_cancel] at q49
          have q46 := cmp_cd hf (S := S) (T := S) (by omega) (by omega)
          rw [if_pos rfl] at q46
          exact ⟨p31, q36, q40, q49, q46⟩
        simp only [pre44 p44, fun44 p44, cond_true, pre48 p48, fun48 p48, z0, Bool.or_self, cond_false, sgI_lt]
        rcases sgI_same hsg with ⟨hS, hT⟩ | ⟨hS, hT⟩ | ⟨hS, hT⟩
        · -- both zero
          have q1 := cmp_cd hf (S := S - T) (T := T) (by omega) (by omega)
          have q2 := cmp_cd hf (S := -(S - T)) (T := S) (by omega) (by omega)
          rw [show (if S - T = T then (0 : Int) else if S - T < T then -1 else 1) = cmI (S - T) T from rfl] at q1
          rw [show (if -(S - T) = S then (0 : Int) else if -(S - T) < S then -1 else 1) = cmI (-(S - T)) S from rfl] at q2
          rw [decide_eq_false (show ¬ S < 0 by omega), cond_false]
          simp only [pre46 q1, fun46 q1, pre46 q2, fun46 q2, cond_true, z0, Bool.or_self, cond_false, cmI_gt]
          rw [decide_eq_false (show ¬ T < S - T by omega), decide_eq_false (show ¬ S < -(S - T) by omega), Bool.or_self, cond_false]
          obtain ⟨x, e1, e2, e3, e4⟩ := hclose.out (by omega) (by omega)
          obtain ⟨r1, r2, r3, r4, r5⟩ := last.out x e1 e2 e3 e4
          simp only [pre31 r1, fun31 r1, cond_true, pre36 r2, fun36 r2, Bool.true_or, Bool.not_true, z0, Bool.or_self, cond_false, pre40 r3, fun40 r3, pre50 p50b, fun50 p50b, pre49 r4, fun49 r4, pre50 p50a, fun50 p50a, pre46 r5, fun46 r5]
          rfl
        · have n1 := neg_cd hf (S := S) (by omega)
          have n2 := neg_cd hf (S := T) (by omega)
          have q1 := cmp_cd hf (S := -(S - T)) (T := -T) (by omega) (by omega)
          have q2 := cmp_cd hf (S := S - T) (T := -S) (by omega) (by omega)
          rw [show (if -(S - T) = -T then (0 : Int) else if -(S - T) < -T then -1 else 1) = cmI (-(S - T)) (-T) from rfl] at q1
          rw [show (if S - T = -S then (0 : Int) else if S - T < -S then -1 else 1) = cmI (S - T) (-S) from rfl] at q2
          rw [decide_eq_true hS, cond_true]
          simp only [pre48 n1, fun48 n1, pre48 n2, fun48 n2, pre46 q1, fun46 q1, pre46 q2, fun46 q2, cond_true, z0, Bool.or_self, cond_false, cmI_gt]
          by_cases hgo : -T < -(S - T) ∨ -S < S - T
          · have : (decide (-T < -(S - T)) || decide (-S < S - T)) = true := by
              rcases hgo with h | h
              · rw [decide_eq_true h]; rfl
              · rw [decide_eq_true h, Bool.or_true]
            rw [this]; rfl
          · rw [decide_eq_false (show ¬ -T < -(S - T) by omega), decide_eq_false (show ¬ -S < S - T by omega), Bool.or_self, cond_false]
            obtain ⟨x, e1, e2, e3, e4⟩ := hclose.out (by omega) (by omega)
            obtain ⟨r1, r2, r3, r4, r5⟩ := last.out x e1 e2 e3 e4
            simp only [pre31 r1, fun31 r1, cond_true, pre36 r2, fun36 r2, Bool.true_or, Bool.not_true, z0, Bool.or_self, cond_false, pre40 r3, fun40 r3, pre50 p50b, fun50 p50b, pre49 r4, fun49 r4, pre50 p50a, fun50 p50a, pre46 r5, fun46 r5]
            rfl
        · have q1 := cmp_cd hf (S := S - T) (T := T) (by omega) (by omega)
          have q2 := cmp_cd hf (S := -(S - T)) (T := S) (by omega) (by omega)
          rw [show (if S - T = T then (0 : Int) else if S - T < T then -1 else 1) = cmI (S - T) T from rfl] at q1
          rw [show (if -(S - T) = S then (0 : Int) else if -(S - T) < S then -1 else 1) = cmI (-(S - T)) S from rfl] at q2
          rw [decide_eq_false (show ¬ S < 0 by omega), cond_false]
          simp only [pre46 q1, fun46 q1, pre46 q2, fun46 q2, cond_true, z0, Bool.or_self, cond_false, cmI_gt]
          by_cases hgo : T < S - T ∨ S < -(S - T)
          · have : (decide (T < S - T) || decide (S < -(S - T))) = true := by
              rcases hgo with h | h
              · rw [decide_eq_true h]; rfl
              · rw [decide_eq_true h, Bool.or_true]
            rw [this]; rfl
          · rw [decide_eq_false (show ¬ T < S - T by omega), decide_eq_false (show ¬ S < -(S - T) by omega), Bool.or_self, cond_false]
            obtain ⟨x, e1, e2, e3, e4⟩ := hclose.out (by omega) (by omega)
            obtain ⟨r1, r2, r3, r4, r5⟩ := last.out x e1 e2 e3 e4
            simp only [pre31 r1, fun31 r1, cond_true, pre36 r2, fun36 r2, Bool.true_or, Bool.not_true, z0, Bool.or_self, cond_false, pre40 r3, fun40 r3, pre50 p50b, fun50 p50b, pre49 r4, fun49 r4, pre50 p50a, fun50 p50a, pre46 r5, fun46 r5]
            rfl
      · have hne : (sgI S != sgI T) = true := by simpa using hsg
        rw [hne]; rfl
    · rw [decide_eq_false fb]
      cases decide (eF f a ≠ fullF f) <;> rfl
  · rw [decide_eq_false fa]; rfl
end VL
namespace Vx
open Go Go.RowKit Go.ChangeShapes Go.WideShapes
/-- numbers in their ranges, lengths below 2^63 -/
def wfD : (τ : Shape) → Den τ → Prop
  | .int k, n => k.min ≤ n ∧ n ≤ k.max
  | .slice e, xs => xs.length < lim ∧ ∀ x ∈ xs, wfD e x
  | .pair a b, x => wfD a x.1 ∧ wfD b x.2
  | .bool, _ => True
  | .str, _ => True
  | .fn, _ => True
  | .unit, _ => True
theorem DRep.wfD {w : World} {S : Nat → Prop} : ∀ {τ : Shape} {x : Den τ} {cs : List Value}, DRep w S τ x cs → wfD τ x
  | .int _, _, _, h => h.2
  | .bool, _, _, _ => trivial
  | .str, _, _, _ => trivial
  | .fn, _, _, _ => trivial
  | .unit, _, _, _ => trivial
  | .slice _, xs, _, ⟨A, c, _, h1, h2, h3⟩ => by
    refine ⟨Nat.lt_of_le_of_lt h1 h2, fun x hx => ?_⟩
    obtain ⟨r, o, vs, T, fz, _, _, _, h⟩ := h3 (List.ne_nil_of_mem hx)
    obtain ⟨i, hi⟩ := List.getElem?_of_mem hx
    obtain ⟨ds, hd, _⟩ := h i x hi
    exact hd.wfD
  | .pair _ _, _, _, ⟨c1, c2, _, h1, h2⟩ => ⟨h1.wfD, h2.wfD⟩
def wfS : (sg : Sig) → DenS sg → Prop
  | [], _ => True
  | (_, τ) :: r, x => wfD τ x.1 ∧ wfS r x.2
/-- what a datum says -/
def undat {H : Type} : (τ : Shape) → (DataW H → Option (Den τ)) × (List (DataW H) → Option (Den τ))
  | .int k => (fun d => match d with | .lit (.int k' n) => if k' = k then some n else none | _ => none, fun _ => none)
  | .bool => (fun d => match d with | .lit (.bool b) => some b | _ => none, fun _ => none)
  | .unit => (fun d => match d with | .agg [] => some () | _ => none, fun l => match l with | [] => some () | _ => none)
  | .pair a b =>
    let f := fun l => match l with
      | d :: r => (match (undat a).1 d, (undat b).2 r with | some x, some y => some (x, y) | _, _ => none)
      | [] => none
    (fun d => match d with | .agg l => f l | _ => none, f)
  | .str => (fun _ => none, fun _ => none)
  | .fn => (fun _ => none, fun _ => none)
  | .slice _ => (fun _ => none, fun _ => none)
/-- a type's shape -/
def fitF (P : Program) (g : TypeId → Shape → Bool) : List Field → Nat → Shape → Bool
  | [], _, .unit => true
  | f :: fs, o, .pair a b => (f.offset == o) && (P.cellsOf f.type == a.width) && g f.type a && fitF P g fs (o + a.width) b
  | _, _, _ => false
def fitB (P : Program) : Nat → TypeId → Shape → Bool
  | 0, _, _ => false
  | n + 1, t, τ => match P.underlying t with
    | some (.int k) => (match τ with | .int k' => decide (k = k') | _ => false)
    | some .bool => (match τ with | .bool => true | _ => false)
    | some (.slice e) => (match τ with | .slice σ => (P.cellsOf e == σ.width) && decide (0 < σ.width) && fitB P n e σ | _ => false)
    | some (.struct fs) => (P.cellsOf t == τ.width) && fitF P (fitB P n) fs.toList 0 τ
    | _ => false
theorem choose_list {A : Type} {Q : Nat → A → Prop} : ∀ (n : Nat), (∀ i, i < n → ∃ x, Q i x) → ∃ xs : List A, xs.length = n ∧ ∀ i x, xs[i]? = some x → Q i x
  | 0, _ => ⟨[], rfl, fun i x h => by simp at h⟩
  | n + 1, h => by
    obtain ⟨xs, h1, h2⟩ := choose_list n fun i hi => h i (by omega)
    obtain ⟨x, hx⟩ := h n (by omega)
    refine ⟨xs ++ [x], by simp [h1], fun i y hy => ?_⟩
    rcases Nat.lt_or_ge i n with hi | hi
    · rw [List.getElem?_append_left (by omega)] at hy
      exact h2 i y hy
    · rw [List.getElem?_append_right (by omega)] at hy
      have : i = n := by
        have := (List.getElem?_eq_some_iff.1 hy).1
        simp at this; omega
      subst this
      simp [h1] at hy
      exact hy ▸ hx
theorem wf_int {k : IntKind} {n : Int} (h : (Lit.int k n).wf = true) : k.min ≤ n ∧ n ≤ k.max := by
  simpa [Lit.wf] using h
section
variable {H : Type} {enc : TypeId × Value → H} {P : Program} {W : World} {spare : Nat → Bool} {held : Bool}
theorem fitF_ok {n : Nat} {m : Nat} {cs : List Value} (ih : ∀ (t : TypeId) (τ : Shape) (cs : List Value) (d : DataW H) (p : List MemPlace), fitB P n t τ = true → DataW.trod enc P W 0 spare held m t cs = some (d, p) → ∃ x : Den τ, DRep W (fun q => q < W.heap.size) τ x cs ∧ ∀ y, (undat τ).1 d = some y → x = y) :
    ∀ (l : List Field) (o : Nat) (τ : Shape) (xs : List (DataW H × List MemPlace)), fitF P (fitB P n) l o τ = true → xs.length = l.length → cs.length = o + τ.width →
      (∀ (i : Nat) (f : Field), l[i]? = some f → DataW.trod enc P W 0 spare held m f.type ((cs.drop f.offset).take (P.cellsOf f.type)) = xs[i]?) →
      ∃ x : Den τ, DRep W (fun q => q < W.heap.size) τ x (cs.drop o) ∧ ∀ y, (undat τ).2 (xs.map (·.1)) = some y → x = y
  | [], o, τ, xs, hf, hx, hl, _ => by
    cases τ <;> simp [fitF] at hf
    refine ⟨(), ?_, fun _ _ => rfl⟩
    show cs.drop o = []
    apply List.drop_eq_nil_of_le
    simp [Shape.width] at hl
    omega
  | f :: fs, o, τ, xs, hf, hx, hl, h => by
    cases τ with
    | pair a b =>
      simp only [fitF, Bool.and_eq_true, beq_iff_eq] at hf
      obtain ⟨⟨⟨ho, hc⟩, hg⟩, hr⟩ := hf
      cases xs with
      | nil => simp at hx
      | cons x0 xs =>
        have h0 := h 0 f rfl
        rw [ho, hc] at h0
        simp only [List.getElem?_cons_zero] at h0
        obtain ⟨xa, ha, hua⟩ := ih f.type a _ x0.1 x0.2 hg h0
        simp only [Shape.width] at hl
        obtain ⟨xb, hb, hub⟩ := fitF_ok ih fs (o + a.width) b xs hr (by simpa using hx) (by rw [hl]; omega) fun i g hi => by
          have := h (i + 1) g (by simpa using hi)
          simpa using this
        refine ⟨(xa, xb), ⟨(cs.drop o).take a.width, cs.drop (o + a.width), ?_, ha, hb⟩, fun y hy => ?_⟩
        · rw [← List.drop_drop, List.take_append_drop]
        · simp only [undat, List.map_cons] at hy
          split at hy
          · rename_i e1 e2
            have := hua _ e1; have := hub _ e2
            subst_vars
            exact Option.some.inj hy
          · cases hy
    | _ => simp [fitF] at hf
theorem fit_ok : ∀ (n : Nat) (m : Nat) (t : TypeId) (τ : Shape) (cs : List Value) (d : DataW H) (p : List MemPlace), fitB P n t τ = true → DataW.trod enc P W 0 spare held m t cs = some (d, p) →
    ∃ x : Den τ, DRep W (fun q => q < W.heap.size) τ x cs ∧ ∀ y, (undat τ).1 d = some y → x = y
  | 0, _, _, _, _, _, _, h, _ => by simp [fitB] at h
  | n + 1, m, t, τ, cs, d, p, h, ht => by
    unfold fitB at h
    split at h
    · rename_i k hk
      cases τ with
      | int k' =>
        simp only [decide_eq_true_eq] at h
        subst h
        obtain ⟨v, hv, hx, hw⟩ := DataW.trod_int hk ht
        simp only [Prod.mk.injEq] at hx
        refine ⟨v, ⟨hv, wf_int hw⟩, fun y hy => ?_⟩
        rw [hx.1] at hy
        simp only [undat, if_true] at hy
        exact Option.some.inj hy
      | _ => cases h
    · rename_i hk
      cases τ with
      | bool =>
        obtain ⟨v, hv, hx⟩ := DataW.trod_bool hk ht
        simp only [Prod.mk.injEq] at hx
        refine ⟨v, hv, fun y hy => ?_⟩
        rw [hx.1] at hy
        simp only [undat] at hy
        exact Option.some.inj hy
      | _ => cases h
    · rename_i e hk
      cases τ with
      | slice σ =>
        simp only [Bool.and_eq_true, beq_iff_eq, decide_eq_true_eq] at h
        obtain ⟨⟨hc, hpos⟩, hf⟩ := h
        rcases DataW.trod_slice hk ht with ⟨hcs, hx⟩ | ⟨a, len, cap, elems, rest, m', rfl, hcs, hx, hb, hlc, hcap, hlen, hel, _⟩
        · exact ⟨[], ⟨none, 0, hcs, Nat.le_refl _, by decide, fun h => absurd rfl h⟩, fun y hy => by simp [undat] at hy⟩
        · have each : ∀ i, i < len → ∃ x : Den σ, ∃ ds, W.cells? 0 (a.add (i * P.cellsOf e)) (P.cellsOf e) = some ds ∧ DRep W (fun q => q < W.heap.size) σ x ds := fun i hi => by
            have := hel i hi
            rw [List.getElem?_eq_getElem (by omega), Option.bind_eq_some_iff] at this
            obtain ⟨ds, h1, h2⟩ := this
            obtain ⟨x, hx, _⟩ := fit_ok n m' e σ ds (elems[i]'(by omega)).1 (elems[i]'(by omega)).2 hf h2
            exact ⟨x, ds, h1, hx⟩
          obtain ⟨xs, hxl, hxs⟩ := choose_list len each
          refine ⟨xs, ⟨some a, cap, by rw [hxl]; exact hcs, by omega, by unfold lim; unfold maxLen at hcap; omega, fun hne => ?_⟩, fun y hy => by simp [undat] at hy⟩
          have h0 : 0 < xs.length := List.length_pos_iff.2 hne
          obtain ⟨ds0, hd0, _⟩ := hxs 0 xs[0] (List.getElem?_eq_getElem h0)
          obtain ⟨_, hl0, hc0⟩ := World.cells?_some hd0
          have hz : a.add (0 * P.cellsOf e) = a := by simp [Addr.add]
          have hz' : a.add 0 = a := by simp [Addr.add]
          rw [hz] at hc0
          have hc00 := hc0 0 (by omega)
          rw [hz', List.getElem?_eq_getElem (by omega)] at hc00
          unfold World.cell? at hc00
          split at hc00
          · rename_i c T fz hheap
            split at hc00
            · cases hc00
            · rename_i hspot
              have hs : a.spot = none := by simpa using hspot
              have hadd : ∀ q, a.add q = ⟨a.block, a.off + q, none⟩ := fun q => by
                unfold Addr.add
                split
                · subst_vars; cases a; simp at hs; simp [hs]
                · rfl
              have ha : a = ⟨a.block, a.off, none⟩ := by cases a; simp at hs; simp [hs]
              refine ⟨a.block, a.off, c, T, fz, by rw [← ha], ?_, hheap, fun i x hi => ?_⟩
              · exact (Array.getElem?_eq_some_iff.1 hheap).1
              · obtain ⟨ds, hd, hr⟩ := hxs i x hi
                refine ⟨ds, hr, fun j v hj => ?_⟩
                obtain ⟨_, hl, hcj⟩ := World.cells?_some hd
                have hjl : j < P.cellsOf e := by rw [← hl]; exact (List.getElem?_eq_some_iff.1 hj).1
                have := hcj j hjl
                rw [hadd, hj] at this
                have hadd2 : (⟨a.block, a.off + i * P.cellsOf e, none⟩ : Addr).add j = ⟨a.block, a.off + i * P.cellsOf e + j, none⟩ := by
                  unfold Addr.add
                  split
                  · subst_vars; rfl
                  · rfl
                rw [hadd2] at this
                unfold World.cell? at this
                simp only [hheap] at this
                rw [hc] at this
                exact this
          · cases hc00
      | _ => cases h
    · rename_i fs hk
      simp only [Bool.and_eq_true, beq_iff_eq] at h
      obtain ⟨hc, hf⟩ := h
      obtain ⟨xs, m', rfl, hx, hl, hxl, hel⟩ := DataW.trod_struct hk ht
      simp only [Prod.mk.injEq] at hx
      obtain ⟨x, h1, h2⟩ := fitF_ok (fun t τ cs d p => fit_ok n m' t τ cs d p) fs.toList 0 τ xs hf (by simpa using hxl) (by rw [hl, hc]; omega) fun i f hi => hel i f (by simpa using hi)
      refine ⟨x, by simpa using h1, fun y hy => h2 y ?_⟩
      rw [hx.1] at hy
      cases τ with
      | pair a b => exact hy
      | unit =>
        simp only [undat] at hy ⊢
        split at hy
        · rename_i e; simp only [DataW.agg.injEq] at e; rw [e]
        · cases hy
      | _ => simp [undat] at hy
    · cases h
end
end Vx
namespace Vx
open Go Go.RowKit Go.ChangeShapes Go.WideShapes
def isStruct (P : Program) (t : TypeId) : Bool := match P.underlying t with
  | some (.struct _) => true
  | _ => false
def fitS (P : Program) (n : Nat) : List TypeId → Sig → Bool
  | [], [] => true
  | t :: ts, (a, τ) :: r => fitB P n t τ && (a == isStruct P t) && fitS P n ts r
  | _, _ => false
section
variable {H : Type} {enc : TypeId × Value → H} {P : Program} {W : World}
theorem cells_one {n : Nat} {t : TypeId} {τ : Shape} {r : Reach} {b0 : Nat} {v : Value} (hf : fitB P n t τ = true) (hs : isStruct P t = false) (hv : Value.okWide P W r b0 t v) : v.cells.toList = [v] := by
  cases n with
  | zero => simp [fitB] at hf
  | succ n =>
    unfold fitB at hf
    split at hf
    · rename_i k hk; obtain ⟨_, rfl⟩ := okWide_int hk hv; rfl
    · rename_i hk; obtain ⟨_, rfl⟩ := okWide_bool hk hv; rfl
    · rename_i e hk; obtain ⟨_, _, _, rfl⟩ := okWide_slice hk hv; rfl
    · rename_i fs hk; simp [isStruct, hk] at hs
    · cases hf
theorem erep_plain {S : Nat → Prop} {a : Bool} {τ : Shape} {x : Den τ} {y : Value} (ho : ownE a τ = false) (h : PRep W S a τ x y) : ERep W S a τ x y [] := by
  cases τ with
  | slice e =>
    cases a with
    | true => cases ho
    | false => exact ⟨rfl, h⟩
  | _ => exact ⟨rfl, h⟩
theorem args_ok {n : Nat} {sp : Nat → Bool} {held : Bool} {b0 : Nat} : ∀ (ts : List TypeId) (I : Sig) (vs : List Value) (ds : List (DataW H)) (ps : List MemPlace), fitS P n ts I = true →
    (∀ (j : Nat) (t : TypeId) (v : Value), ts[j]? = some t → vs[j]? = some v → Value.okWide P W .any b0 t v) → DataW.TrodAll enc P W 0 sp held ts vs ds ps → ∃ x : DenS I, SRep W (fun q => q < W.heap.size) I x vs [] ∧ wfS I x ∧ ds.length = ts.length
  | [], [], vs, ds, ps, _, _, h => by
    cases vs <;> cases ds <;> simp [DataW.TrodAll] at h
    exact ⟨(), ⟨rfl, rfl⟩, trivial, rfl⟩
  | [], _ :: _, _, _, _, hf, _, _ => by simp [fitS] at hf
  | _ :: _, [], _, _, _, hf, _, _ => by simp [fitS] at hf
  | t :: ts, (a, τ) :: I, vs, ds, ps, hf, hv, h => by
    cases vs with
    | nil => simp [DataW.TrodAll] at h
    | cons v vs =>
      cases ds with
      | nil => simp [DataW.TrodAll] at h
      | cons d ds =>
        obtain ⟨p, q, ⟨m, hp⟩, hq, _⟩ := h
        simp only [fitS, Bool.and_eq_true, beq_iff_eq] at hf
        obtain ⟨⟨h1, h2⟩, h3⟩ := hf
        obtain ⟨x, hx, hw, hl⟩ := args_ok ts I vs ds q h3 (fun j t v ht hv' => hv (j + 1) t v (by simpa using ht) (by simpa using hv')) hq
        obtain ⟨y, hy, _⟩ := fit_ok n m t τ _ d p h1 hp
        have hok := hv 0 t v rfl rfl
        refine ⟨(y, x), ⟨v, vs, [], [], rfl, rfl, erep_plain ?_ ?_, hx⟩, ⟨hy.wfD, hw⟩, by simp [hl]⟩
        · cases τ with
          | slice σ =>
            show a = false
            rw [h2]
            cases n with
            | zero => simp [fitB] at h1
            | succ n =>
              unfold fitB at h1
              unfold isStruct
              split at h1 <;> rename_i hk <;> first | (rw [hk]; done) | (simp only [hk]; done) | (simp [fitF] at h1; done) | skip
          | _ => rfl
        cases a with
        | true =>
          have hs : isStruct P t = true := h2.symm
          unfold isStruct at hs
          split at hs
          · rename_i fs hk
            unfold Value.okWide at hok
            rw [hk] at hok
            obtain ⟨cs, rfl, _⟩ := hok
            exact ⟨cs.toList, by simp, hy⟩
          · cases hs
        | false =>
          have hs : isStruct P t = false := h2.symm
          rw [cells_one h1 hs hok] at hy
          exact hy
theorem trodAll_below (hl : laidOutB P = true) {W' : World} (hb : Below W.heap.size W W') : ∀ (ts : List TypeId) (vs : List Value) (ds : List (DataW H)) (ps : List MemPlace), (ts.all fun t => P.readableRec t && decide (t < P.types.size)) = true →
    DataW.TrodAll enc P W 0 (fun _ => true) true ts vs ds ps → (∀ x ∈ ps, x.block < W.heap.size) → DataW.TrodAll enc P W' 0 (fun b => decide (b < W.heap.size)) true ts vs ds ps
  | [], vs, ds, ps, _, h, _ => by
    cases vs <;> cases ds <;> simp [DataW.TrodAll] at h ⊢
    exact h
  | t :: ts, vs, ds, ps, hr, h, hlt => by
    cases vs with
    | nil => simp [DataW.TrodAll] at h
    | cons v vs =>
      cases ds with
      | nil => simp [DataW.TrodAll] at h
      | cons d ds =>
        obtain ⟨p, q, hp, hq, rfl⟩ := h
        simp only [List.all_cons, Bool.and_eq_true, decide_eq_true_eq] at hr
        exact ⟨p, q, Below.trod hl hr.1.1 hr.1.2 hp hb (fun x hx => hlt x (List.mem_append.2 (.inl hx))),
          trodAll_below hl hb ts vs ds q hr.2 hq (fun x hx => hlt x (List.mem_append.2 (.inr hx))), rfl⟩
/-- a table that is laid -/
theorem glob_of {n : String} {g : Nat} {t e : TypeId} {m k : Nat} {τ : Shape} {ds : List (DataW Unit)} {xs : List (Den τ)} {r : List (String × DataW Unit)} {ps : List MemPlace}
    (hL : DataW.LaidVars P W ((n, .agg ds) :: r) ps) (hg : P.globalNamed n = some g) (ht : (P.globals[g]?).map (·.type) = some t) (hu : P.underlying t = some (.array m e)) (hc : P.cellsOf e = τ.width) (hf : fitB P k e τ = true)
    (hx : ds.map (undat τ).1 = xs.map some) :
    (g < W.heap.size ∧ ∃ vs T fz, W.heap[g]? = some (.cells vs T fz) ∧ Rows W (fun q => q < W.heap.size) τ vs 0 xs) ∧ ∃ ps', DataW.LaidVars P W r ps' := by
  obtain ⟨g', t', cs, fuel, p, q, h1, h2, h3, h4, h5, _⟩ := hL
  rw [hg] at h1; cases h1
  rw [ht] at h2; cases h2
  refine ⟨?_, q, h5⟩
  unfold World.var? at h3
  rw [hg] at h3
  simp only [Option.bind_some] at h3
  split at h3
  · rename_i c T fz hh
    cases h3
    refine ⟨(Array.getElem?_eq_some_iff.1 hh).1, cs, T, fz, hh, ?_⟩
    obtain ⟨ys, m', rfl, hy, hl, hyl, hel⟩ := DataW.trod_array hu h4
    simp only [Prod.mk.injEq, DataW.agg.injEq] at hy
    intro i x hi
    have hxl : xs.length = m := by
      have := congrArg List.length hx
      simp [hy.1, hyl] at this
      omega
    have him : i < m := by rw [← hxl]; exact (List.getElem?_eq_some_iff.1 hi).1
    have he := hel i him
    have hyi : ys[i]? = some (ys[i]'(by omega)) := List.getElem?_eq_getElem (by omega)
    rw [hyi, hc] at he
    obtain ⟨x', h6, h7⟩ := fit_ok k m' e τ _ _ _ hf he
    have hd : (undat τ).1 (ys[i]'(by omega)).1 = some x := by
      have := congrArg (·[i]?) hx
      simp only [List.getElem?_map, hy.1, hyi, hi, Option.map_some] at this
      exact Option.some.inj this
    have := h7 x hd
    subst this
    refine ⟨_, h6, fun j v hj => ?_⟩
    rw [List.getElem?_take] at hj
    split at hj
    · rw [List.getElem?_drop] at hj
      simpa using hj
    · cases hj
  · cases h3
theorem returns_true {G : List (Nat × Sigma fun τ => List (Den τ))} {f : FuncId} {I : Sig} {T : DenS I → Option (DenS [(false, .bool)])} {d : DenS [(false, .bool)]} (hS : Sound P G f (sumOf I [(false, .bool)] T d)) {x : DenS I} (hT : T x = some (true, ())) (hcal : ∃ fn, P.funcs[f]? = some fn ∧ fn.body.isNone = false ∧ (fn.name == "runtime.NumGoroutine") = false) {W : World} {args : Array Value}
    (hG : GlobsOk G W fun q => q < W.heap.size) (ha : SRep W (fun q => q < W.heap.size) I x args.toList []) : Calls P f args W fun e W' => e = .returned (.bool true) ∧ Below W.heap.size W W' := by
  have := hS.calls x (by show (T x).isSome = true; rw [hT]; rfl) W (fun q => q < W.heap.size) args.toList [] (fun q h => h) hG ha List.nodup_nil (fun r h => by simp at h)
  rw [Array.toArray_toList] at this
  have this := this.resolve_right (fun ⟨v, hv, _⟩ => by rw [run_callFunc hcal] at hv; cases hv)
  refine this.2.mono fun e W' ⟨zs, rs', he, hb, _, _, hz⟩ => ⟨?_, ⟨hb.os, hb.tape, hb.output, hb.size, fun k hk => hb.block k hk (fun h => by simp at h)⟩⟩
  obtain ⟨y, ys, r1, r2, rfl, _, ⟨_, h1⟩, rfl, _⟩ := hz
  have h2 : [y] = [Value.bool ((T x).getD d).1] := h1
  rw [hT] at h2
  cases h2
  exact he
/-- what a law's row asks -/
theorem law_post {G : List (Nat × Sigma fun τ => List (Den τ))} {f : FuncId} {fn : Func} {I : Sig} {T : DenS I → Option (DenS [(false, .bool)])} {d : DenS [(false, .bool)]} {s : ChangeSpec} {n : Nat} {tb : TypeId}
    (hS : Sound P G f (sumOf I [(false, .bool)] T d)) (hT : ∀ x, wfS I x → T x = some (true, ())) (hcal : ∃ fn, P.funcs[f]? = some fn ∧ fn.body.isNone = false ∧ (fn.name == "runtime.NumGoroutine") = false) (hlay : laidOutB P = true) (hfit : fitS P n fn.params.toList I = true)
    (hread : (fn.params.toList.all fun t => P.readableRec t && decide (t < P.types.size)) = true) (hres : fn.resultTypes = #[tb]) (hbool : P.underlying tb = some .bool) (hvars : s.vars = [])
    (hspec : ∀ ds : List (DataW H), ds.length = fn.params.toList.length → s.fn H ds = { results := [.lit (.bool true)], args := ds })
    {W : World} {base : Nat} {args : Array Value} {ds gs : List (DataW H)} {before : List MemPlace}
    (hval : ∀ (j : Nat) (t : TypeId) (v : Value), fn.params[j]? = some t → args[j]? = some v → Value.okWide P W .any base t v)
    (hW : DataW.Whole enc P fn.params.toList s.vars false W args.toList ds gs before) (hG : GlobsOk G W fun q => q < W.heap.size) :
    Calls P f args W fun e W' => ∃ v, e = .returned v ∧ ChangeSpec.post enc P fn s false true false false W args v W' := by
  have hW' := hW
  obtain ⟨p, q, hA, hV, rfl, _, _⟩ := hW
  rw [hvars] at hV
  obtain ⟨rfl, rfl⟩ := trodVars_none hV
  obtain ⟨x, hx, hw, hlen⟩ := args_ok (b0 := base) fn.params.toList I args.toList ds p hfit (fun j t v ht hv => hval j t v (by simpa using ht) (by simpa using hv)) hA
  refine (returns_true hS (hT x hw) hcal hG hx).mono fun e W' ⟨he, hb⟩ => ⟨.bool true, he, ds, [], p ++ [], [], p, [], hW', ?_, ?_, ?_, hb.frame _, fun h => by cases h⟩
  · rw [List.append_nil, hspec ds hlen, hres]
    exact trodAll_mk1 (shut_bool hbool true)
  · rw [List.append_nil, hspec ds hlen]
    exact trodAll_below hlay hb _ _ _ _ hread hA fun y hy => by simpa using hW'.lt y (by simpa using hy)
  · rw [List.append_nil, hspec ds hlen, hvars]
    rfl
end
theorem globs_nil {W : World} {S : Nat → Prop} : GlobsOk [] W S := fun _ _ _ h => by simp [findGlob] at h
theorem globs_cons {W : World} {S : Nat → Prop} {g : Nat} {τ : Shape} {xs : List (Den τ)} {G : List (Nat × Sigma fun τ => List (Den τ))} (h : S g ∧ ∃ vs T fz, W.heap[g]? = some (.cells vs T fz) ∧ Rows W S τ vs 0 xs) (r : GlobsOk G W S) :
    GlobsOk ((g, ⟨τ, xs⟩) :: G) W S := fun g' τ' xs' hf => by
  simp only [findGlob] at hf
  cases hb : Nat.beq g g' with
  | true =>
    have := Nat.eq_of_beq_eq_true hb
    subst this
    rw [hb] at hf
    simp only [cond_true, Option.some.injEq] at hf
    cases hf
    exact h
  | false =>
    rw [hb] at hf
    exact r g' τ' xs' hf
end Vx
