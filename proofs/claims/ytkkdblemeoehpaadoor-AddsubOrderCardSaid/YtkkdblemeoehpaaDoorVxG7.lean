/- Part 7 of the proof. What is proved: symbolic execution of the functions, proved sound; what each function of the program computes, and that every run ends with it; what these functions compute, in plain numbers. Conditions: each theorem bears its own. -/
import Derived.Test.YtkkdblemeoehpaaDoorVxG6
import Derived.ProofKit
import Derived.LaidMore
import Derived.OpenShut
import Derived.Stop.Joined
import GoSem.ClaimJoined
set_option linter.all false
set_option exponentiation.threshold 1000000
namespace VL
open Go Vx
def qm (f : Int) : Int := 1 - (fX f : Int) - (fP f : Int) + 1
def cutJ (m : Int) (neg : Bool) (n j : Nat) : Nat :=
  if clsR (n % 2 ^ j) j ≠ 0 ∧ furM m neg (decide (n / 2 ^ j % 2 = 1)) (clsR (n % 2 ^ j) j) = true then n / 2 ^ j + 1 else n / 2 ^ j
/-- a number at the least exponent, rounded, as if there were no end -/
def muM (f m : Int) (neg : Bool) (n : Nat) : Nat := if n < 2 ^ fP f then n else (blen n - fP f) * 2 ^ (fP f - 1) + cutJ m neg n (blen n - fP f)
def limM (f m : Int) (neg : Bool) : Nat := if upw m neg then infF f else infF f - 1
theorem cutJ_bound (m : Int) (neg : Bool) (n j : Nat) : n / 2 ^ j ≤ cutJ m neg n j ∧ cutJ m neg n j ≤ n / 2 ^ j + 1 := by
  unfold cutJ; split <;> omega
theorem quo_bound {f : Int} (hf : Fm f) {n : Nat} (h : ¬ n < 2 ^ fP f) : 1 ≤ blen n - fP f ∧ 2 ^ (fP f - 1) ≤ n / 2 ^ (blen n - fP f) ∧ n / 2 ^ (blen n - fP f) < 2 ^ fP f := by
  have hP := fP_ge hf
  have hb := blen_ge (n := n) (k := fP f) (by omega)
  obtain ⟨j, hj⟩ : ∃ j, blen n = fP f + j := ⟨blen n - fP f, by omega⟩
  have h1 := blen_lt n
  have h2 := blen_le (n := n) (by have := Nat.two_pow_pos (fP f); omega)
  rw [hj] at h1 h2 ⊢
  rw [Nat.add_sub_cancel_left]
  refine ⟨by omega, ?_, ?_⟩
  · rw [Nat.le_div_iff_mul_le (Nat.two_pow_pos _), ← Nat.pow_add]
    refine Nat.le_trans (Nat.pow_le_pow_right (by decide) ?_) h2
    omega
  · rw [Nat.div_lt_iff_lt_mul (Nat.two_pow_pos _), ← Nat.pow_add]
    exact h1
theorem two_P {f : Int} (hf : Fm f) : 2 ^ fP f = 2 * 2 ^ (fP f - 1) := by
  have hP := fP_ge hf
  rw [← Nat.pow_succ', Nat.succ_eq_add_one, Nat.sub_add_cancel (by omega)]
theorem rndM_mu {f : Int} (hf : Fm f) (m : Int) (neg : Bool) {n : Nat} (h0 : n ≠ 0) :
    rndM f m neg n (qm f) = if infF f ≤ muM f m neg n then (limM f m neg, 20) else (muM f m neg n, if n < 2 ^ fP f then 0 else if clsR (n % 2 ^ (blen n - fP f)) (blen n - fP f) = 0 then 0 else 16) := by
  have hP := fP_ge hf
  have hX := fX_ge hf
  have h2p := two_P hf
  have hpp := Nat.two_pow_pos (fP f - 1)
  have hinf := inf_ge hf
  have hb1 := blen_pos h0
  have htop : topE n (qm f) = qm f + (blen n : Int) - 1 := rfl
  have hqm : qm f = 1 - (fX f : Int) - (fP f : Int) + 1 := rfl
  unfold rndM
  by_cases h : n < 2 ^ fP f
  · have hb := blen_bound h
    have hlow : lowE f (topE n (qm f)) = qm f := by unfold lowE; split <;> omega
    have hmu : muM f m neg n = n := by unfold muM; rw [if_pos h]
    have hcut : cutR n (qm f) (qm f) false = 0 := by rw [cutR_f, rstE_lo (Int.le_refl _)]
    have hcn : cutN m neg n (qm f) (qm f) false = n := by
      unfold cutN
      rw [if_neg (fun hh => hh.1 hcut), quoE_lo (Int.le_refl _), Int.sub_self]
      simp
    have hlt : 2 * 2 ^ (fP f - 1) ≤ (2 * fX f + 1) * 2 ^ (fP f - 1) := Nat.mul_le_mul_right _ (by omega)
    rw [if_neg (show ¬ topE n (qm f) > fX f by omega), hlow, hmu, if_neg (show ¬ infF f ≤ n by omega)]
    dsimp only
    rw [hcn, if_neg (show ¬ qm f + (blen n : Int) - 1 > fX f by omega), hcut, if_pos rfl, if_pos h, ← hqm, Int.sub_self]
    simp
  · obtain ⟨hj1, hq1, hq2⟩ := quo_bound hf h
    have hblen : (blen n : Int) = (fP f : Int) + ((blen n - fP f : Nat) : Int) := by omega
    obtain ⟨hc1, hc2⟩ := cutJ_bound m neg n (blen n - fP f)
    have hmu : muM f m neg n = (blen n - fP f) * 2 ^ (fP f - 1) + cutJ m neg n (blen n - fP f) := by unfold muM; rw [if_neg h]
    rw [hmu, if_neg h]
    have hlow : lowE f (topE n (qm f)) = qm f + ((blen n - fP f : Nat) : Int) := by unfold lowE; rw [if_neg (by omega)]; omega
    have htiny : ¬ isTiny f m neg n (qm f) false := fun hh => by have := hh.1; omega
    have hcr : cutR n (qm f) (qm f + ((blen n - fP f : Nat) : Int)) false = clsR (n % 2 ^ (blen n - fP f)) (blen n - fP f) := by
      rw [cutR_f, rstE_hi (by omega), show (qm f + ((blen n - fP f : Nat) : Int) - qm f).toNat = blen n - fP f by omega]
    have hcn : cutN m neg n (qm f) (qm f + ((blen n - fP f : Nat) : Int)) false = cutJ m neg n (blen n - fP f) := by
      unfold cutN cutJ
      rw [hcr, quoE_hi (by omega), show (qm f + ((blen n - fP f : Nat) : Int) - qm f).toNat = blen n - fP f by omega]
    rw [hlow]
    dsimp only
    rw [hcn, hcr, show (qm f + ((blen n - fP f : Nat) : Int) - (1 - (fX f : Int) - (fP f : Int) + 1)).toNat = blen n - fP f by omega]
    generalize blen n - fP f = j at *
    generalize cutJ m neg n j = u at *
    generalize n / 2 ^ j = Q at *
    by_cases ht : topE n (qm f) > fX f
    · have hj2 : 2 * fX f + 1 ≤ j + 1 := by omega
      have := Nat.mul_le_mul_right (2 ^ (fP f - 1)) hj2
      rw [Nat.add_mul j, Nat.one_mul] at this
      rw [if_pos ht, if_pos (show infF f ≤ j * 2 ^ (fP f - 1) + u by omega)]
      rfl
    · rw [if_neg ht]
      rcases Nat.lt_or_ge u (2 ^ fP f) with hu | hu
      · have hbu := blen_bound hu
        have hj2 : j + 2 ≤ 2 * fX f + 1 := by omega
        have := Nat.mul_le_mul_right (2 ^ (fP f - 1)) hj2
        rw [Nat.add_mul] at this
        rw [if_neg (show ¬ qm f + (j : Int) + (blen u : Int) - 1 > fX f by omega), if_neg (show ¬ infF f ≤ j * 2 ^ (fP f - 1) + u by omega), if_neg htiny]
      · have hbu := blen_ge hu
        have hbu2 := blen_bound (n := u) (k := fP f + 1) (by rw [Nat.pow_succ]; omega)
        by_cases hj2 : j + 3 ≤ 2 * fX f + 1
        · have := Nat.mul_le_mul_right (2 ^ (fP f - 1)) hj2
          rw [Nat.add_mul] at this
          rw [if_neg (show ¬ qm f + (j : Int) + (blen u : Int) - 1 > fX f by omega), if_neg (show ¬ infF f ≤ j * 2 ^ (fP f - 1) + u by omega), if_neg htiny]
        · have hj3 : 2 * fX f + 1 ≤ j + 2 := by omega
          have := Nat.mul_le_mul_right (2 ^ (fP f - 1)) hj3
          rw [Nat.add_mul j] at this
          rw [if_pos (show qm f + (j : Int) + (blen u : Int) - 1 > fX f by omega), if_pos (show infF f ≤ j * 2 ^ (fP f - 1) + u by omega)]
          rfl
theorem blen_mono {n k : Nat} (h : n ≤ k) : blen n ≤ blen k := blen_bound (Nat.lt_of_le_of_lt h (blen_lt k))
theorem cls_mono {r r' j : Nat} (h : r ≤ r') : clsR r j ≤ clsR r' j := by
  unfold clsR
  generalize 2 ^ (j - 1) = H
  by_cases h0 : r = 0
  · rw [if_pos h0]; exact Nat.zero_le _
  rw [if_neg h0, if_neg (show ¬ r' = 0 by omega)]
  by_cases h1 : r' < H
  · rw [if_pos (show r < H by omega), if_pos h1]; exact Nat.le_refl _
  rw [if_neg h1]
  by_cases h2 : r' = H
  · rw [if_pos h2]
    split
    · decide
    · rw [if_pos (by omega)]; exact Nat.le_refl _
  · rw [if_neg h2]
    split
    · decide
    · split <;> decide
theorem clsR_le (r j : Nat) : clsR r j ≤ 3 := by
  unfold clsR
  split
  · decide
  · split
    · decide
    · split <;> decide
theorem up_mono {m : Int} (hm : 0 ≤ m ∧ m ≤ 5) (neg odd : Bool) {c c' : Nat} (h : c ≤ c') (hc' : c' ≤ 3) (hu : c ≠ 0 ∧ furM m neg odd c = true) : c' ≠ 0 ∧ furM m neg odd c' = true := by
  obtain ⟨h0, h1⟩ := hu
  refine ⟨by omega, ?_⟩
  rcases (show c = 1 ∨ c = 2 ∨ c = 3 by omega) with rfl | rfl | rfl <;> rcases (show c' = 1 ∨ c' = 2 ∨ c' = 3 by omega) with rfl | rfl | rfl <;> rcases mode_cases hm with rfl | rfl | rfl | rfl | rfl | rfl <;> cases neg <;> cases odd <;> first | rfl | (exfalso; omega) | (revert h1; decide)
theorem cutJ_mono {m : Int} (hm : 0 ≤ m ∧ m ≤ 5) (neg : Bool) {n k j : Nat} (h : n ≤ k) : cutJ m neg n j ≤ cutJ m neg k j := by
  have hq : n / 2 ^ j ≤ k / 2 ^ j := Nat.div_le_div_right h
  have h1 := cutJ_bound m neg n j
  have h2 := cutJ_bound m neg k j
  rcases Nat.lt_or_ge (n / 2 ^ j) (k / 2 ^ j) with hlt | hge
  · omega
  · have he : n / 2 ^ j = k / 2 ^ j := by omega
    have hr : n % 2 ^ j ≤ k % 2 ^ j := by
      have a1 := Nat.div_add_mod n (2 ^ j)
      have a2 := Nat.div_add_mod k (2 ^ j)
      rw [he] at a1
      omega
    unfold cutJ
    rw [he]
    have hu := up_mono hm neg (decide (k / 2 ^ j % 2 = 1)) (cls_mono (j := j) hr) (clsR_le _ _)
    split
    · rename_i hh
      rw [if_pos (hu hh)]
      omega
    · split <;> omega
theorem mu_mono {f m : Int} (hf : Fm f) (hm : 0 ≤ m ∧ m ≤ 5) (neg : Bool) {n k : Nat} (h : n ≤ k) : muM f m neg n ≤ muM f m neg k := by
  have h2p := two_P hf
  unfold muM
  by_cases h1 : n < 2 ^ fP f
  · by_cases h2 : k < 2 ^ fP f
    · rw [if_pos h1, if_pos h2]; exact h
    · obtain ⟨hj1, hq1, _⟩ := quo_bound hf h2
      have hc := (cutJ_bound m neg k (blen k - fP f)).1
      have := Nat.mul_le_mul_right (2 ^ (fP f - 1)) hj1
      rw [if_pos h1, if_neg h2]; omega
  · have h2 : ¬ k < 2 ^ fP f := by omega
    obtain ⟨hj1, hq1, hq2⟩ := quo_bound hf h1
    obtain ⟨hj1', hq1', hq2'⟩ := quo_bound hf h2
    have hc := cutJ_bound m neg n (blen n - fP f)
    have hc' := cutJ_bound m neg k (blen k - fP f)
    have hb := blen_mono h
    rw [if_neg h1, if_neg h2]
    rcases Nat.lt_or_ge (blen n - fP f) (blen k - fP f) with hlt | hge
    · have := Nat.mul_le_mul_right (2 ^ (fP f - 1)) hlt
      rw [Nat.succ_eq_add_one, Nat.add_mul] at this
      omega
    · have he : blen n - fP f = blen k - fP f := by omega
      rw [he]
      have := cutJ_mono hm neg (j := blen k - fP f) h
      omega
/-- the place of a rounded whole number of least steps -/
def magI (f m : Int) (neg : Bool) (n : Nat) : Nat := if n = 0 then 0 else (rndM f m neg n (qm f)).1
def plcI (f m : Int) (S : Int) : Int := if S < 0 then -(magI f m true S.natAbs : Int) else (magI f m false S.natAbs : Int)
theorem mag_mono {f m : Int} (hf : Fm f) (hm : 0 ≤ m ∧ m ≤ 5) (neg : Bool) {n k : Nat} (h : n ≤ k) : magI f m neg n ≤ magI f m neg k := by
  unfold magI
  by_cases h0 : n = 0
  · rw [if_pos h0]; exact Nat.zero_le _
  · rw [if_neg h0, if_neg (by omega), rndM_mu hf m neg h0, rndM_mu hf m neg (by omega)]
    have hmm := mu_mono hf hm neg h
    have hp := infF_pos hf
    unfold limM
    by_cases h1 : infF f ≤ muM f m neg n
    · rw [if_pos h1, if_pos (show infF f ≤ muM f m neg k by omega)]
      exact Nat.le_refl _
    · rw [if_neg h1]
      by_cases h2 : infF f ≤ muM f m neg k
      · rw [if_pos h2]
        dsimp only
        split <;> omega
      · rw [if_neg h2]
        exact hmm
theorem plc_mono {f m : Int} (hf : Fm f) (hm : 0 ≤ m ∧ m ≤ 5) {S T : Int} (h : S ≤ T) : plcI f m S ≤ plcI f m T := by
  unfold plcI
  by_cases hS : S < 0
  · rw [if_pos hS]
    by_cases hT : T < 0
    · rw [if_pos hT]
      have := mag_mono hf hm true (n := T.natAbs) (k := S.natAbs) (by omega)
      omega
    · rw [if_neg hT]; omega
  · rw [if_neg hS, if_neg (by omega)]
    have := mag_mono hf hm false (n := S.natAbs) (k := T.natAbs) (by omega)
    omega
end VL
namespace Vx
open Go Go.Proofs
/-- vernier/vernierlaw06.into -/
abbrev I79 : Sig := [(false, .int .i64), (false, .int .i64)]
abbrev O79 : Sig := [(false, .int .i64)]
noncomputable def t79 (a0 : Den (.int .i64)) (a1 : Den (.int .i64)) : Option (DenS O79) :=
  bif (a1 != (0 : Int)) then
  (bif (a1 != (0 : Int)) then
  (some ((Int.tmod (Go.IntKind.wrap Go.IntKind.i64 ((Int.tmod a0 a1) + a1)) a1), ()))
  else none)
  else none
theorem r79 (a0 : Den (.int .i64)) (a1 : Den (.int .i64)) :
    run { P := Go.Proofs.Tryd.prog, sums := [], loops := [], globs := G1 } 9 79 Go.Proofs.Tryd.f79 I79 O79 (a0, a1, ()) = t79 a0 a1 := by kernel_rfl
noncomputable def T79 (x : DenS I79) : Option (DenS O79) := t79 x.1 x.2.1
noncomputable def C79 : Cfg := { P := Go.Proofs.Tryd.prog, sums := [], loops := [], globs := G1 }
noncomputable def S79 : Sum := sumOf I79 O79 T79 (DenS.dflt O79)
theorem S79_sound : Sound Go.Proofs.Tryd.prog G1 79 S79 :=
  fn_sound C79 9 79 Go.Proofs.Tryd.f79 mixedOk (by kernel_rfl) (by kernel_rfl) (by kernel_rfl) trivial trivial I79 O79 T79 _ fun x => r79 x.1 x.2.1
/-- vernier/vernierlaw06.width -/
abbrev I80 : Sig := [(false, .int .i64)]
abbrev O80 : Sig := [(false, .int .i64)]
noncomputable def t80 (p67 : DenS I67 → Bool) (f67 : DenS I67 → DenS O67) (a0 : Den (.int .i64)) : Option (DenS O80) :=
  bif (p67 (a0, ())) then
  (some ((f67 (a0, ())).1, ()))
  else none
theorem r80 (p67 : DenS I67 → Bool) (f67 : DenS I67 → DenS O67) (a0 : Den (.int .i64)) :
    run { P := Go.Proofs.Tryd.prog, sums := [(67, ⟨I67, O67, p67, f67⟩)], loops := [], globs := G1 } 9 80 Go.Proofs.Tryd.f80 I80 O80 (a0, ()) = t80 p67 f67 a0 := by kernel_rfl
noncomputable def T80 (x : DenS I80) : Option (DenS O80) := t80 S67.pre S67.F x.1
noncomputable def C80 : Cfg := { P := Go.Proofs.Tryd.prog, sums := [(67, S67)], loops := [], globs := G1 }
noncomputable def S80 : Sum := sumOf I80 O80 T80 (DenS.dflt O80)
theorem S80_sound : Sound Go.Proofs.Tryd.prog G1 80 S80 :=
  fn_sound C80 9 80 Go.Proofs.Tryd.f80 mixedOk (by kernel_rfl) (by kernel_rfl) (by kernel_rfl) ⟨S67_sound, trivial⟩ trivial I80 O80 T80 _ fun x => r80 S67.pre S67.F x.1
/-- (vernier/vernierlaw06.Three).right -/
abbrev I29 : Sig := [(true, .pair (.int .i64) (.pair (.int .i64) (.pair (.int .u64) (.pair (.int .u64) (.pair (.int .u64) (.unit))))))]
abbrev O29 : Sig := [(true, .pair (.int .i64) (.pair (.int .i64) (.pair (.int .u64) (.pair (.int .u64) (.pair (.int .u64) (.unit))))))]
noncomputable def t29 (p79 : DenS I79 → Bool) (f79 : DenS I79 → DenS O79) (p80 : DenS I80 → Bool) (f80 : DenS I80 → DenS O80) (a0 : Den (.pair (.int .i64) (.pair (.int .i64) (.pair (.int .u64) (.pair (.int .u64) (.pair (.int .u64) (.unit))))))) : Option (DenS O29) :=
  bif (p79 (a0.1, ((4 : Int), ()))) then
  (bif (p79 (a0.2.1, ((6 : Int), ()))) then
  (bif (p80 (f79 (a0.1, ((4 : Int), ())))) then
  (some (((f79 (a0.1, ((4 : Int), ()))).1, ((f79 (a0.2.1, ((6 : Int), ()))).1, ((Vx.shrI Go.IntKind.u64 (Vx.shlI Go.IntKind.u64 a0.2.2.1 (Go.IntKind.wrap Go.IntKind.u64 (Go.IntKind.wrap Go.IntKind.i64 ((64 : Int) - (f80 (f79 (a0.1, ((4 : Int), ())))).1)))) (Go.IntKind.wrap Go.IntKind.u64 (Go.IntKind.wrap Go.IntKind.i64 ((64 : Int) - (f80 (f79 (a0.1, ((4 : Int), ())))).1)))), ((Vx.shrI Go.IntKind.u64 (Vx.shlI Go.IntKind.u64 a0.2.2.2.1 (Go.IntKind.wrap Go.IntKind.u64 (Go.IntKind.wrap Go.IntKind.i64 ((64 : Int) - (f80 (f79 (a0.1, ((4 : Int), ())))).1)))) (Go.IntKind.wrap Go.IntKind.u64 (Go.IntKind.wrap Go.IntKind.i64 ((64 : Int) - (f80 (f79 (a0.1, ((4 : Int), ())))).1)))), ((Vx.shrI Go.IntKind.u64 (Vx.shlI Go.IntKind.u64 a0.2.2.2.2.1 (Go.IntKind.wrap Go.IntKind.u64 (Go.IntKind.wrap Go.IntKind.i64 ((64 : Int) - (f80 (f79 (a0.1, ((4 : Int), ())))).1)))) (Go.IntKind.wrap Go.IntKind.u64 (Go.IntKind.wrap Go.IntKind.i64 ((64 : Int) - (f80 (f79 (a0.1, ((4 : Int), ())))).1)))), ()))))), ()))
  else none)
  else none)
  else none
theorem r29 (p79 : DenS I79 → Bool) (f79 : DenS I79 → DenS O79) (p80 : DenS I80 → Bool) (f80 : DenS I80 → DenS O80) (a0 : Den (.pair (.int .i64) (.pair (.int .i64) (.pair (.int .u64) (.pair (.int .u64) (.pair (.int .u64) (.unit))))))) :
    run { P := Go.Proofs.Tryd.prog, sums := [(79, ⟨I79, O79, p79, f79⟩), (80, ⟨I80, O80, p80, f80⟩)], loops := [], globs := G1 } 9 29 Go.Proofs.Tryd.f29 I29 O29 (a0, ()) = t29 p79 f79 p80 f80 a0 := by kernel_rfl
noncomputable def T29 (x : DenS I29) : Option (DenS O29) := t29 S79.pre S79.F S80.pre S80.F x.1
noncomputable def C29 : Cfg := { P := Go.Proofs.Tryd.prog, sums := [(79, S79), (80, S80)], loops := [], globs := G1 }
noncomputable def S29 : Sum := sumOf I29 O29 T29 (DenS.dflt O29)
theorem S29_sound : Sound Go.Proofs.Tryd.prog G1 29 S29 :=
  fn_sound C29 9 29 Go.Proofs.Tryd.f29 mixedOk (by kernel_rfl) (by kernel_rfl) (by kernel_rfl) ⟨S79_sound, ⟨S80_sound, trivial⟩⟩ trivial I29 O29 T29 _ fun x => r29 S79.pre S79.F S80.pre S80.F x.1
/-- vernier/vernierlaw06.nan -/
abbrev I34 : Sig := [(false, .int .i64), (false, .int .u64)]
abbrev O34 : Sig := [(false, .bool)]
noncomputable def t34 (p74 : DenS I74 → Bool) (f74 : DenS I74 → DenS O74) (a0 : Den (.int .i64)) (a1 : Den (.int .u64)) : Option (DenS O34) :=
  bif (p74 (a0, (a1, ()))) then
  (some ((f74 (a0, (a1, ()))).1.1, ()))
  else none
theorem r34 (p74 : DenS I74 → Bool) (f74 : DenS I74 → DenS O74) (a0 : Den (.int .i64)) (a1 : Den (.int .u64)) :
    run { P := Go.Proofs.Tryd.prog, sums := [(74, ⟨I74, O74, p74, f74⟩)], loops := [], globs := G1 } 9 34 Go.Proofs.Tryd.f34 I34 O34 (a0, a1, ()) = t34 p74 f74 a0 a1 := by kernel_rfl
noncomputable def T34 (x : DenS I34) : Option (DenS O34) := t34 S74.pre S74.F x.1 x.2.1
noncomputable def C34 : Cfg := { P := Go.Proofs.Tryd.prog, sums := [(74, S74)], loops := [], globs := G1 }
noncomputable def S34 : Sum := sumOf I34 O34 T34 (DenS.dflt O34)
theorem S34_sound : Sound Go.Proofs.Tryd.prog G1 34 S34 :=
  fn_sound C34 9 34 Go.Proofs.Tryd.f34 mixedOk (by kernel_rfl) (by kernel_rfl) (by kernel_rfl) ⟨S74_sound, trivial⟩ trivial I34 O34 T34 _ fun x => r34 S74.pre S74.F x.1 x.2.1
/-- vernier/vernierlaw06.sub -/
abbrev I31 : Sig := [(false, .int .i64), (false, .int .i64), (false, .int .u64), (false, .int .u64)]
abbrev O31 : Sig := [(false, .int .u64), (false, .int .i64), (false, .bool)]
noncomputable def t31 (p25 : DenS I25 → Bool) (f25 : DenS I25 → DenS O25) (a0 : Den (.int .i64)) (a1 : Den (.int .i64)) (a2 : Den (.int .u64)) (a3 : Den (.int .u64)) : Option (DenS O31) :=
  bif (p25 (a0, (a1, (a2, (a3, ()))))) then
  (some ((f25 (a0, (a1, (a2, (a3, ()))))).1, ((f25 (a0, (a1, (a2, (a3, ()))))).2.1, (((f25 (a0, (a1, (a2, (a3, ()))))).2.2.1 == (0 : Int)), ()))))
  else none
theorem r31 (p25 : DenS I25 → Bool) (f25 : DenS I25 → DenS O25) (a0 : Den (.int .i64)) (a1 : Den (.int .i64)) (a2 : Den (.int .u64)) (a3 : Den (.int .u64)) :
    run { P := Go.Proofs.Tryd.prog, sums := [(25, ⟨I25, O25, p25, f25⟩)], loops := [], globs := G1 } 9 31 Go.Proofs.Tryd.f31 I31 O31 (a0, a1, a2, a3, ()) = t31 p25 f25 a0 a1 a2 a3 := by kernel_rfl
noncomputable def T31 (x : DenS I31) : Option (DenS O31) := t31 S25.pre S25.F x.1 x.2.1 x.2.2.1 x.2.2.2.1
noncomputable def C31 : Cfg := { P := Go.Proofs.Tryd.prog, sums := [(25, S25)], loops := [], globs := G1 }
noncomputable def S31 : Sum := sumOf I31 O31 T31 (DenS.dflt O31)
theorem S31_sound : Sound Go.Proofs.Tryd.prog G1 31 S31 :=
  fn_sound C31 9 31 Go.Proofs.Tryd.f31 mixedOk (by kernel_rfl) (by kernel_rfl) (by kernel_rfl) ⟨S25_sound, trivial⟩ trivial I31 O31 T31 _ fun x => r31 S25.pre S25.F x.1 x.2.1 x.2.2.1 x.2.2.2.1
/-- vernier/vernierlaw06.rank -/
abbrev I35 : Sig := [(false, .int .i64), (false, .int .u64)]
abbrev O35 : Sig := [(false, .int .i64)]
noncomputable def t35 (p80 : DenS I80 → Bool) (f80 : DenS I80 → DenS O80) (a0 : Den (.int .i64)) (a1 : Den (.int .u64)) : Option (DenS O35) :=
  bif (p80 (a0, ())) then
  (bif (decide (a1 ≥ (Vx.shlI Go.IntKind.u64 (1 : Int) (Go.IntKind.wrap Go.IntKind.u64 (Go.IntKind.wrap Go.IntKind.i64 ((f80 (a0, ())).1 - (1 : Int))))))) then
  (some ((Go.IntKind.wrap Go.IntKind.i64 ((0 : Int) - (Go.IntKind.wrap Go.IntKind.i64 (Go.IntKind.wrap Go.IntKind.u64 (a1 - (Vx.shlI Go.IntKind.u64 (1 : Int) (Go.IntKind.wrap Go.IntKind.u64 (Go.IntKind.wrap Go.IntKind.i64 ((f80 (a0, ())).1 - (1 : Int)))))))))), ()))
  else some ((Go.IntKind.wrap Go.IntKind.i64 a1), ()))
  else none
theorem r35 (p80 : DenS I80 → Bool) (f80 : DenS I80 → DenS O80) (a0 : Den (.int .i64)) (a1 : Den (.int .u64)) :
    run { P := Go.Proofs.Tryd.prog, sums := [(80, ⟨I80, O80, p80, f80⟩)], loops := [], globs := G1 } 9 35 Go.Proofs.Tryd.f35 I35 O35 (a0, a1, ()) = t35 p80 f80 a0 a1 := by kernel_rfl
noncomputable def T35 (x : DenS I35) : Option (DenS O35) := t35 S80.pre S80.F x.1 x.2.1
noncomputable def C35 : Cfg := { P := Go.Proofs.Tryd.prog, sums := [(80, S80)], loops := [], globs := G1 }
noncomputable def S35 : Sum := sumOf I35 O35 T35 (DenS.dflt O35)
theorem S35_sound : Sound Go.Proofs.Tryd.prog G1 35 S35 :=
  fn_sound C35 9 35 Go.Proofs.Tryd.f35 mixedOk (by kernel_rfl) (by kernel_rfl) (by kernel_rfl) ⟨S80_sound, trivial⟩ trivial I35 O35 T35 _ fun x => r35 S80.pre S80.F x.1 x.2.1
/-- vernier/vernierlaw06.add -/
abbrev I30 : Sig := [(false, .int .i64), (false, .int .i64), (false, .int .u64), (false, .int .u64)]
abbrev O30 : Sig := [(false, .int .u64), (false, .int .i64), (false, .bool)]
noncomputable def t30 (p27 : DenS I27 → Bool) (f27 : DenS I27 → DenS O27) (a0 : Den (.int .i64)) (a1 : Den (.int .i64)) (a2 : Den (.int .u64)) (a3 : Den (.int .u64)) : Option (DenS O30) :=
  bif (p27 (a0, (a1, (a2, (a3, ()))))) then
  (some ((f27 (a0, (a1, (a2, (a3, ()))))).1, ((f27 (a0, (a1, (a2, (a3, ()))))).2.1, (((f27 (a0, (a1, (a2, (a3, ()))))).2.2.1 == (0 : Int)), ()))))
  else none
theorem r30 (p27 : DenS I27 → Bool) (f27 : DenS I27 → DenS O27) (a0 : Den (.int .i64)) (a1 : Den (.int .i64)) (a2 : Den (.int .u64)) (a3 : Den (.int .u64)) :
    run { P := Go.Proofs.Tryd.prog, sums := [(27, ⟨I27, O27, p27, f27⟩)], loops := [], globs := G1 } 9 30 Go.Proofs.Tryd.f30 I30 O30 (a0, a1, a2, a3, ()) = t30 p27 f27 a0 a1 a2 a3 := by kernel_rfl
noncomputable def T30 (x : DenS I30) : Option (DenS O30) := t30 S27.pre S27.F x.1 x.2.1 x.2.2.1 x.2.2.2.1
noncomputable def C30 : Cfg := { P := Go.Proofs.Tryd.prog, sums := [(27, S27)], loops := [], globs := G1 }
noncomputable def S30 : Sum := sumOf I30 O30 T30 (DenS.dflt O30)
theorem S30_sound : Sound Go.Proofs.Tryd.prog G1 30 S30 :=
  fn_sound C30 9 30 Go.Proofs.Tryd.f30 mixedOk (by kernel_rfl) (by kernel_rfl) (by kernel_rfl) ⟨S27_sound, trivial⟩ trivial I30 O30 T30 _ fun x => r30 S27.pre S27.F x.1 x.2.1 x.2.2.1 x.2.2.2.1
/-- vernier/vernierlaw06.AddsubOrder -/
abbrev I9 : Sig := [(true, .pair (.int .i64) (.pair (.int .i64) (.pair (.int .u64) (.pair (.int .u64) (.pair (.int .u64) (.unit))))))]
abbrev O9 : Sig := [(false, .bool)]
noncomputable def t9 (p24 : DenS I24 → Bool) (f24 : DenS I24 → DenS O24) (p29 : DenS I29 → Bool) (f29 : DenS I29 → DenS O29) (p30 : DenS I30 → Bool) (f30 : DenS I30 → DenS O30) (p31 : DenS I31 → Bool) (f31 : DenS I31 → DenS O31) (p34 : DenS I34 → Bool) (f34 : DenS I34 → DenS O34) (p35 : DenS I35 → Bool) (f35 : DenS I35 → DenS O35) (a0 : Den (.pair (.int .i64) (.pair (.int .i64) (.pair (.int .u64) (.pair (.int .u64) (.pair (.int .u64) (.unit))))))) : Option (DenS O9) :=
  bif (p24 ()) then
  (bif (!(f24 ()).1) then
  (some (false, ()))
  else bif (p29 ((a0.1, a0.2), ())) then
  (bif (p34 ((f29 ((a0.1, a0.2), ())).1.1, ((f29 ((a0.1, a0.2), ())).1.2.2.1, ()))) then
  (bif ((p34 ((f29 ((a0.1, a0.2), ())).1.1, ((f29 ((a0.1, a0.2), ())).1.2.2.2.1, ()))) || (!(bif (f34 ((f29 ((a0.1, a0.2), ())).1.1, ((f29 ((a0.1, a0.2), ())).1.2.2.1, ()))).1 then false else true))) then
  (bif ((p34 ((f29 ((a0.1, a0.2), ())).1.1, (f29 ((a0.1, a0.2), ())).1.2.2.2.2)) || (!(bif ((f34 ((f29 ((a0.1, a0.2), ())).1.1, ((f29 ((a0.1, a0.2), ())).1.2.2.1, ()))).1 || (f34 ((f29 ((a0.1, a0.2), ())).1.1, ((f29 ((a0.1, a0.2), ())).1.2.2.2.1, ()))).1) then false else true))) then
  (bif (((f34 ((f29 ((a0.1, a0.2), ())).1.1, ((f29 ((a0.1, a0.2), ())).1.2.2.1, ()))).1 || (f34 ((f29 ((a0.1, a0.2), ())).1.1, ((f29 ((a0.1, a0.2), ())).1.2.2.2.1, ()))).1) || (f34 ((f29 ((a0.1, a0.2), ())).1.1, (f29 ((a0.1, a0.2), ())).1.2.2.2.2)).1) then
  (some (true, ()))
  else bif (p35 ((f29 ((a0.1, a0.2), ())).1.1, ((f29 ((a0.1, a0.2), ())).1.2.2.1, ()))) then
  (bif (p35 ((f29 ((a0.1, a0.2), ())).1.1, ((f29 ((a0.1, a0.2), ())).1.2.2.2.1, ()))) then
  (bif (decide ((f35 ((f29 ((a0.1, a0.2), ())).1.1, ((f29 ((a0.1, a0.2), ())).1.2.2.1, ()))).1 > (f35 ((f29 ((a0.1, a0.2), ())).1.1, ((f29 ((a0.1, a0.2), ())).1.2.2.2.1, ()))).1)) then
  (bif (p30 ((f29 ((a0.1, a0.2), ())).1.1, ((f29 ((a0.1, a0.2), ())).1.2.1, (f29 ((a0.1, a0.2), ())).1.2.2.2))) then
  (bif (p30 ((f29 ((a0.1, a0.2), ())).1.1, ((f29 ((a0.1, a0.2), ())).1.2.1, ((f29 ((a0.1, a0.2), ())).1.2.2.1, (f29 ((a0.1, a0.2), ())).1.2.2.2.2)))) then
  (bif ((p34 ((f29 ((a0.1, a0.2), ())).1.1, ((f30 ((f29 ((a0.1, a0.2), ())).1.1, ((f29 ((a0.1, a0.2), ())).1.2.1, (f29 ((a0.1, a0.2), ())).1.2.2.2))).1, ()))) || (!(bif ((!(f30 ((f29 ((a0.1, a0.2), ())).1.1, ((f29 ((a0.1, a0.2), ())).1.2.1, (f29 ((a0.1, a0.2), ())).1.2.2.2))).2.2.1) || (!(f30 ((f29 ((a0.1, a0.2), ())).1.1, ((f29 ((a0.1, a0.2), ())).1.2.1, ((f29 ((a0.1, a0.2), ())).1.2.2.1, (f29 ((a0.1, a0.2), ())).1.2.2.2.2)))).2.2.1)) then false else true))) then
  (bif ((p34 ((f29 ((a0.1, a0.2), ())).1.1, ((f30 ((f29 ((a0.1, a0.2), ())).1.1, ((f29 ((a0.1, a0.2), ())).1.2.1, ((f29 ((a0.1, a0.2), ())).1.2.2.1, (f29 ((a0.1, a0.2), ())).1.2.2.2.2)))).1, ()))) || (!((bif ((!(f30 ((f29 ((a0.1, a0.2), ())).1.1, ((f29 ((a0.1, a0.2), ())).1.2.1, (f29 ((a0.1, a0.2), ())).1.2.2.2))).2.2.1) || (!(f30 ((f29 ((a0.1, a0.2), ())).1.1, ((f29 ((a0.1, a0.2), ())).1.2.1, ((f29 ((a0.1, a0.2), ())).1.2.2.1, (f29 ((a0.1, a0.2), ())).1.2.2.2.2)))).2.2.1)) then false else true) && (bif (f34 ((f29 ((a0.1, a0.2), ())).1.1, ((f30 ((f29 ((a0.1, a0.2), ())).1.1, ((f29 ((a0.1, a0.2), ())).1.2.1, (f29 ((a0.1, a0.2), ())).1.2.2.2))).1, ()))).1 then false else true)))) then
  (bif ((p35 ((f29 ((a0.1, a0.2), ())).1.1, ((f30 ((f29 ((a0.1, a0.2), ())).1.1, ((f29 ((a0.1, a0.2), ())).1.2.1, (f29 ((a0.1, a0.2), ())).1.2.2.2))).1, ()))) || (!((bif ((!(f30 ((f29 ((a0.1, a0.2), ())).1.1, ((f29 ((a0.1, a0.2), ())).1.2.1, (f29 ((a0.1, a0.2), ())).1.2.2.2))).2.2.1) || (!(f30 ((f29 ((a0.1, a0.2), ())).1.1, ((f29 ((a0.1, a0.2), ())).1.2.1, ((f29 ((a0.1, a0.2), ())).1.2.2.1, (f29 ((a0.1, a0.2), ())).1.2.2.2.2)))).2.2.1)) then false else true) && (bif (!(f34 ((f29 ((a0.1, a0.2), ())).1.1, ((f30 ((f29 ((a0.1, a0.2), ())).1.1, ((f29 ((a0.1, a0.2), ())).1.2.1, (f29 ((a0.1, a0.2), ())).1.2.2.2))).1, ()))).1) then (!(f34 ((f29 ((a0.1, a0.2), ())).1.1, ((f30 ((f29 ((a0.1, a0.2), ())).1.1, ((f29 ((a0.1, a0.2), ())).1.2.1, ((f29 ((a0.1, a0.2), ())).1.2.2.1, (f29 ((a0.1, a0.2), ())).1.2.2.2.2)))).1, ()))).1) else false)))) then
  (bif ((p35 ((f29 ((a0.1, a0.2), ())).1.1, ((f30 ((f29 ((a0.1, a0.2), ())).1.1, ((f29 ((a0.1, a0.2), ())).1.2.1, ((f29 ((a0.1, a0.2), ())).1.2.2.1, (f29 ((a0.1, a0.2), ())).1.2.2.2.2)))).1, ()))) || (!((bif ((!(f30 ((f29 ((a0.1, a0.2), ())).1.1, ((f29 ((a0.1, a0.2), ())).1.2.1, (f29 ((a0.1, a0.2), ())).1.2.2.2))).2.2.1) || (!(f30 ((f29 ((a0.1, a0.2), ())).1.1, ((f29 ((a0.1, a0.2), ())).1.2.1, ((f29 ((a0.1, a0.2), ())).1.2.2.1, (f29 ((a0.1, a0.2), ())).1.2.2.2.2)))).2.2.1)) then false else true) && (bif (!(f34 ((f29 ((a0.1, a0.2), ())).1.1, ((f30 ((f29 ((a0.1, a0.2), ())).1.1, ((f29 ((a0.1, a0.2), ())).1.2.1, (f29 ((a0.1, a0.2), ())).1.2.2.2))).1, ()))).1) then (!(f34 ((f29 ((a0.1, a0.2), ())).1.1, ((f30 ((f29 ((a0.1, a0.2), ())).1.1, ((f29 ((a0.1, a0.2), ())).1.2.1, ((f29 ((a0.1, a0.2), ())).1.2.2.1, (f29 ((a0.1, a0.2), ())).1.2.2.2.2)))).1, ()))).1) else false)))) then
  (bif (((!(f30 ((f29 ((a0.1, a0.2), ())).1.1, ((f29 ((a0.1, a0.2), ())).1.2.1, (f29 ((a0.1, a0.2), ())).1.2.2.2))).2.2.1) || (!(f30 ((f29 ((a0.1, a0.2), ())).1.1, ((f29 ((a0.1, a0.2), ())).1.2.1, ((f29 ((a0.1, a0.2), ())).1.2.2.1, (f29 ((a0.1, a0.2), ())).1.2.2.2.2)))).2.2.1)) || (((!(f34 ((f29 ((a0.1, a0.2), ())).1.1, ((f30 ((f29 ((a0.1, a0.2), ())).1.1, ((f29 ((a0.1, a0.2), ())).1.2.1, (f29 ((a0.1, a0.2), ())).1.2.2.2))).1, ()))).1) && (!(f34 ((f29 ((a0.1, a0.2), ())).1.1, ((f30 ((f29 ((a0.1, a0.2), ())).1.1, ((f29 ((a0.1, a0.2), ())).1.2.1, ((f29 ((a0.1, a0.2), ())).1.2.2.1, (f29 ((a0.1, a0.2), ())).1.2.2.2.2)))).1, ()))).1)) && (decide ((f35 ((f29 ((a0.1, a0.2), ())).1.1, ((f30 ((f29 ((a0.1, a0.2), ())).1.1, ((f29 ((a0.1, a0.2), ())).1.2.1, (f29 ((a0.1, a0.2), ())).1.2.2.2))).1, ()))).1 > (f35 ((f29 ((a0.1, a0.2), ())).1.1, ((f30 ((f29 ((a0.1, a0.2), ())).1.1, ((f29 ((a0.1, a0.2), ())).1.2.1, ((f29 ((a0.1, a0.2), ())).1.2.2.1, (f29 ((a0.1, a0.2), ())).1.2.2.2.2)))).1, ()))).1)))) then
  (some (false, ()))
  else bif (p31 ((f29 ((a0.1, a0.2), ())).1.1, ((f29 ((a0.1, a0.2), ())).1.2.1, ((f29 ((a0.1, a0.2), ())).1.2.2.2.2.1, ((f29 ((a0.1, a0.2), ())).1.2.2.2.1, ()))))) then
  (bif (p31 ((f29 ((a0.1, a0.2), ())).1.1, ((f29 ((a0.1, a0.2), ())).1.2.1, ((f29 ((a0.1, a0.2), ())).1.2.2.2.2.1, ((f29 ((a0.1, a0.2), ())).1.2.2.1, ()))))) then
  (bif ((p34 ((f29 ((a0.1, a0.2), ())).1.1, ((f31 ((f29 ((a0.1, a0.2), ())).1.1, ((f29 ((a0.1, a0.2), ())).1.2.1, ((f29 ((a0.1, a0.2), ())).1.2.2.2.2.1, ((f29 ((a0.1, a0.2), ())).1.2.2.2.1, ()))))).1, ()))) || (!(bif (f31 ((f29 ((a0.1, a0.2), ())).1.1, ((f29 ((a0.1, a0.2), ())).1.2.1, ((f29 ((a0.1, a0.2), ())).1.2.2.2.2.1, ((f29 ((a0.1, a0.2), ())).1.2.2.2.1, ()))))).2.2.1 then (f31 ((f29 ((a0.1, a0.2), ())).1.1, ((f29 ((a0.1, a0.2), ())).1.2.1, ((f29 ((a0.1, a0.2), ())).1.2.2.2.2.1, ((f29 ((a0.1, a0.2), ())).1.2.2.1, ()))))).2.2.1 else false))) then
  (bif ((p34 ((f29 ((a0.1, a0.2), ())).1.1, ((f31 ((f29 ((a0.1, a0.2), ())).1.1, ((f29 ((a0.1, a0.2), ())).1.2.1, ((f29 ((a0.1, a0.2), ())).1.2.2.2.2.1, ((f29 ((a0.1, a0.2), ())).1.2.2.1, ()))))).1, ()))) || (!((bif (f31 ((f29 ((a0.1, a0.2), ())).1.1, ((f29 ((a0.1, a0.2), ())).1.2.1, ((f29 ((a0.1, a0.2), ())).1.2.2.2.2.1, ((f29 ((a0.1, a0.2), ())).1.2.2.2.1, ()))))).2.2.1 then (f31 ((f29 ((a0.1, a0.2), ())).1.1, ((f29 ((a0.1, a0.2), ())).1.2.1, ((f29 ((a0.1, a0.2), ())).1.2.2.2.2.1, ((f29 ((a0.1, a0.2), ())).1.2.2.1, ()))))).2.2.1 else false) && (bif (f34 ((f29 ((a0.1, a0.2), ())).1.1, ((f31 ((f29 ((a0.1, a0.2), ())).1.1, ((f29 ((a0.1, a0.2), ())).1.2.1, ((f29 ((a0.1, a0.2), ())).1.2.2.2.2.1, ((f29 ((a0.1, a0.2), ())).1.2.2.2.1, ()))))).1, ()))).1 then false else true)))) then
  (bif ((p35 ((f29 ((a0.1, a0.2), ())).1.1, ((f31 ((f29 ((a0.1, a0.2), ())).1.1, ((f29 ((a0.1, a0.2), ())).1.2.1, ((f29 ((a0.1, a0.2), ())).1.2.2.2.2.1, ((f29 ((a0.1, a0.2), ())).1.2.2.2.1, ()))))).1, ()))) || (!((bif (f31 ((f29 ((a0.1, a0.2), ())).1.1, ((f29 ((a0.1, a0.2), ())).1.2.1, ((f29 ((a0.1, a0.2), ())).1.2.2.2.2.1, ((f29 ((a0.1, a0.2), ())).1.2.2.2.1, ()))))).2.2.1 then (f31 ((f29 ((a0.1, a0.2), ())).1.1, ((f29 ((a0.1, a0.2), ())).1.2.1, ((f29 ((a0.1, a0.2), ())).1.2.2.2.2.1, ((f29 ((a0.1, a0.2), ())).1.2.2.1, ()))))).2.2.1 else false) && (bif ((f34 ((f29 ((a0.1, a0.2), ())).1.1, ((f31 ((f29 ((a0.1, a0.2), ())).1.1, ((f29 ((a0.1, a0.2), ())).1.2.1, ((f29 ((a0.1, a0.2), ())).1.2.2.2.2.1, ((f29 ((a0.1, a0.2), ())).1.2.2.2.1, ()))))).1, ()))).1 || (f34 ((f29 ((a0.1, a0.2), ())).1.1, ((f31 ((f29 ((a0.1, a0.2), ())).1.1, ((f29 ((a0.1, a0.2), ())).1.2.1, ((f29 ((a0.1, a0.2), ())).1.2.2.2.2.1, ((f29 ((a0.1, a0.2), ())).1.2.2.1, ()))))).1, ()))).1) then false else true)))) then
  (bif ((p35 ((f29 ((a0.1, a0.2), ())).1.1, ((f31 ((f29 ((a0.1, a0.2), ())).1.1, ((f29 ((a0.1, a0.2), ())).1.2.1, ((f29 ((a0.1, a0.2), ())).1.2.2.2.2.1, ((f29 ((a0.1, a0.2), ())).1.2.2.1, ()))))).1, ()))) || (!((bif (f31 ((f29 ((a0.1, a0.2), ())).1.1, ((f29 ((a0.1, a0.2), ())).1.2.1, ((f29 ((a0.1, a0.2), ())).1.2.2.2.2.1, ((f29 ((a0.1, a0.2), ())).1.2.2.2.1, ()))))).2.2.1 then (f31 ((f29 ((a0.1, a0.2), ())).1.1, ((f29 ((a0.1, a0.2), ())).1.2.1, ((f29 ((a0.1, a0.2), ())).1.2.2.2.2.1, ((f29 ((a0.1, a0.2), ())).1.2.2.1, ()))))).2.2.1 else false) && (bif ((f34 ((f29 ((a0.1, a0.2), ())).1.1, ((f31 ((f29 ((a0.1, a0.2), ())).1.1, ((f29 ((a0.1, a0.2), ())).1.2.1, ((f29 ((a0.1, a0.2), ())).1.2.2.2.2.1, ((f29 ((a0.1, a0.2), ())).1.2.2.2.1, ()))))).1, ()))).1 || (f34 ((f29 ((a0.1, a0.2), ())).1.1, ((f31 ((f29 ((a0.1, a0.2), ())).1.1, ((f29 ((a0.1, a0.2), ())).1.2.1, ((f29 ((a0.1, a0.2), ())).1.2.2.2.2.1, ((f29 ((a0.1, a0.2), ())).1.2.2.1, ()))))).1, ()))).1) then false else true)))) then
  (some ((((f31 ((f29 ((a0.1, a0.2), ())).1.1, ((f29 ((a0.1, a0.2), ())).1.2.1, ((f29 ((a0.1, a0.2), ())).1.2.2.2.2.1, ((f29 ((a0.1, a0.2), ())).1.2.2.2.1, ()))))).2.2.1 && (f31 ((f29 ((a0.1, a0.2), ())).1.1, ((f29 ((a0.1, a0.2), ())).1.2.1, ((f29 ((a0.1, a0.2), ())).1.2.2.2.2.1, ((f29 ((a0.1, a0.2), ())).1.2.2.1, ()))))).2.2.1) && (((f34 ((f29 ((a0.1, a0.2), ())).1.1, ((f31 ((f29 ((a0.1, a0.2), ())).1.1, ((f29 ((a0.1, a0.2), ())).1.2.1, ((f29 ((a0.1, a0.2), ())).1.2.2.2.2.1, ((f29 ((a0.1, a0.2), ())).1.2.2.2.1, ()))))).1, ()))).1 || (f34 ((f29 ((a0.1, a0.2), ())).1.1, ((f31 ((f29 ((a0.1, a0.2), ())).1.1, ((f29 ((a0.1, a0.2), ())).1.2.1, ((f29 ((a0.1, a0.2), ())).1.2.2.2.2.1, ((f29 ((a0.1, a0.2), ())).1.2.2.1, ()))))).1, ()))).1) || (decide ((f35 ((f29 ((a0.1, a0.2), ())).1.1, ((f31 ((f29 ((a0.1, a0.2), ())).1.1, ((f29 ((a0.1, a0.2), ())).1.2.1, ((f29 ((a0.1, a0.2), ())).1.2.2.2.2.1, ((f29 ((a0.1, a0.2), ())).1.2.2.2.1, ()))))).1, ()))).1 ≥ (f35 ((f29 ((a0.1, a0.2), ())).1.1, ((f31 ((f29 ((a0.1, a0.2), ())).1.1, ((f29 ((a0.1, a0.2), ())).1.2.1, ((f29 ((a0.1, a0.2), ())).1.2.2.2.2.1, ((f29 ((a0.1, a0.2), ())).1.2.2.1, ()))))).1, ()))).1)))), ()))
  else none)
  else none)
  else none)
  else none)
  else none)
  else none)
  else none)
  else none)
  else none)
  else none)
  else none)
  else none)
  else bif (p30 ((f29 ((a0.1, a0.2), ())).1.1, ((f29 ((a0.1, a0.2), ())).1.2.1, ((f29 ((a0.1, a0.2), ())).1.2.2.1, (f29 ((a0.1, a0.2), ())).1.2.2.2.2)))) then
  (bif (p30 ((f29 ((a0.1, a0.2), ())).1.1, ((f29 ((a0.1, a0.2), ())).1.2.1, (f29 ((a0.1, a0.2), ())).1.2.2.2))) then
  (bif ((p34 ((f29 ((a0.1, a0.2), ())).1.1, ((f30 ((f29 ((a0.1, a0.2), ())).1.1, ((f29 ((a0.1, a0.2), ())).1.2.1, ((f29 ((a0.1, a0.2), ())).1.2.2.1, (f29 ((a0.1, a0.2), ())).1.2.2.2.2)))).1, ()))) || (!(bif ((!(f30 ((f29 ((a0.1, a0.2), ())).1.1, ((f29 ((a0.1, a0.2), ())).1.2.1, ((f29 ((a0.1, a0.2), ())).1.2.2.1, (f29 ((a0.1, a0.2), ())).1.2.2.2.2)))).2.2.1) || (!(f30 ((f29 ((a0.1, a0.2), ())).1.1, ((f29 ((a0.1, a0.2), ())).1.2.1, (f29 ((a0.1, a0.2), ())).1.2.2.2))).2.2.1)) then false else true))) then
  (bif ((p34 ((f29 ((a0.1, a0.2), ())).1.1, ((f30 ((f29 ((a0.1, a0.2), ())).1.1, ((f29 ((a0.1, a0.2), ())).1.2.1, (f29 ((a0.1, a0.2), ())).1.2.2.2))).1, ()))) || (!((bif ((!(f30 ((f29 ((a0.1, a0.2), ())).1.1, ((f29 ((a0.1, a0.2), ())).1.2.1, ((f29 ((a0.1, a0.2), ())).1.2.2.1, (f29 ((a0.1, a0.2), ())).1.2.2.2.2)))).2.2.1) || (!(f30 ((f29 ((a0.1, a0.2), ())).1.1, ((f29 ((a0.1, a0.2), ())).1.2.1, (f29 ((a0.1, a0.2), ())).1.2.2.2))).2.2.1)) then false else true) && (bif (f34 ((f29 ((a0.1, a0.2), ())).1.1, ((f30 ((f29 ((a0.1, a0.2), ())).1.1, ((f29 ((a0.1, a0.2), ())).1.2.1, ((f29 ((a0.1, a0.2), ())).1.2.2.1, (f29 ((a0.1, a0.2), ())).1.2.2.2.2)))).1, ()))).1 then false else true)))) then
  (bif ((p35 ((f29 ((a0.1, a0.2), ())).1.1, ((f30 ((f29 ((a0.1, a0.2), ())).1.1, ((f29 ((a0.1, a0.2), ())).1.2.1, ((f29 ((a0.1, a0.2), ())).1.2.2.1, (f29 ((a0.1, a0.2), ())).1.2.2.2.2)))).1, ()))) || (!((bif ((!(f30 ((f29 ((a0.1, a0.2), ())).1.1, ((f29 ((a0.1, a0.2), ())).1.2.1, ((f29 ((a0.1, a0.2), ())).1.2.2.1, (f29 ((a0.1, a0.2), ())).1.2.2.2.2)))).2.2.1) || (!(f30 ((f29 ((a0.1, a0.2), ())).1.1, ((f29 ((a0.1, a0.2), ())).1.2.1, (f29 ((a0.1, a0.2), ())).1.2.2.2))).2.2.1)) then false else true) && (bif (!(f34 ((f29 ((a0.1, a0.2), ())).1.1, ((f30 ((f29 ((a0.1, a0.2), ())).1.1, ((f29 ((a0.1, a0.2), ())).1.2.1, ((f29 ((a0.1, a0.2), ())).1.2.2.1, (f29 ((a0.1, a0.2), ())).1.2.2.2.2)))).1, ()))).1) then (!(f34 ((f29 ((a0.1, a0.2), ())).1.1, ((f30 ((f29 ((a0.1, a0.2), ())).1.1, ((f29 ((a0.1, a0.2), ())).1.2.1, (f29 ((a0.1, a0.2), ())).1.2.2.2))).1, ()))).1) else false)))) then
  (bif ((p35 ((f29 ((a0.1, a0.2), ())).1.1, ((f30 ((f29 ((a0.1, a0.2), ())).1.1, ((f29 ((a0.1, a0.2), ())).1.2.1, (f29 ((a0.1, a0.2), ())).1.2.2.2))).1, ()))) || (!((bif ((!(f30 ((f29 ((a0.1, a0.2), ())).1.1, ((f29 ((a0.1, a0.2), ())).1.2.1, ((f29 ((a0.1, a0.2), ())).1.2.2.1, (f29 ((a0.1, a0.2), ())).1.2.2.2.2)))).2.2.1) || (!(f30 ((f29 ((a0.1, a0.2), ())).1.1, ((f29 ((a0.1, a0.2), ())).1.2.1, (f29 ((a0.1, a0.2), ())).1.2.2.2))).2.2.1)) then false else true) && (bif (!(f34 ((f29 ((a0.1, a0.2), ())).1.1, ((f30 ((f29 ((a0.1, a0.2), ())).1.1, ((f29 ((a0.1, a0.2), ())).1.2.1, ((f29 ((a0.1, a0.2), ())).1.2.2.1, (f29 ((a0.1, a0.2), ())).1.2.2.2.2)))).1, ()))).1) then (!(f34 ((f29 ((a0.1, a0.2), ())).1.1, ((f30 ((f29 ((a0.1, a0.2), ())).1.1, ((f29 ((a0.1, a0.2), ())).1.2.1, (f29 ((a0.1, a0.2), ())).1.2.2.2))).1, ()))).1) else false)))) then
  (bif (((!(f30 ((f29 ((a0.1, a0.2), ())).1.1, ((f29 ((a0.1, a0.2), ())).1.2.1, ((f29 ((a0.1, a0.2), ())).1.2.2.1, (f29 ((a0.1, a0.2), ())).1.2.2.2.2)))).2.2.1) || (!(f30 ((f29 ((a0.1, a0.2), ())).1.1, ((f29 ((a0.1, a0.2), ())).1.2.1, (f29 ((a0.1, a0.2), ())).1.2.2.2))).2.2.1)) || (((!(f34 ((f29 ((a0.1, a0.2), ())).1.1, ((f30 ((f29 ((a0.1, a0.2), ())).1.1, ((f29 ((a0.1, a0.2), ())).1.2.1, ((f29 ((a0.1, a0.2), ())).1.2.2.1, (f29 ((a0.1, a0.2), ())).1.2.2.2.2)))).1, ()))).1) && (!(f34 ((f29 ((a0.1, a0.2), ())).1.1, ((f30 ((f29 ((a0.1, a0.2), ())).1.1, ((f29 ((a0.1, a0.2), ())).1.2.1, (f29 ((a0.1, a0.2), ())).1.2.2.2))).1, ()))).1)) && (decide ((f35 ((f29 ((a0.1, a0.2), ())).1.1, ((f30 ((f29 ((a0.1, a0.2), ())).1.1, ((f29 ((a0.1, a0.2), ())).1.2.1, ((f29 ((a0.1, a0.2), ())).1.2.2.1, (f29 ((a0.1, a0.2), ())).1.2.2.2.2)))).1, ()))).1 > (f35 ((f29 ((a0.1, a0.2), ())).1.1, ((f30 ((f29 ((a0.1, a0.2), ())).1.1, ((f29 ((a0.1, a0.2), ())).1.2.1, (f29 ((a0.1, a0.2), ())).1.2.2.2))).1, ()))).1)))) then
  (some (false, ()))
  else bif (p31 ((f29 ((a0.1, a0.2), ())).1.1, ((f29 ((a0.1, a0.2), ())).1.2.1, ((f29 ((a0.1, a0.2), ())).1.2.2.2.2.1, ((f29 ((a0.1, a0.2), ())).1.2.2.1, ()))))) then
  (bif (p31 ((f29 ((a0.1, a0.2), ())).1.1, ((f29 ((a0.1, a0.2), ())).1.2.1, ((f29 ((a0.1, a0.2), ())).1.2.2.2.2.1, ((f29 ((a0.1, a0.2), ())).1.2.2.2.1, ()))))) then
  (bif ((p34 ((f29 ((a0.1, a0.2), ())).1.1, ((f31 ((f29 ((a0.1, a0.2), ())).1.1, ((f29 ((a0.1, a0.2), ())).1.2.1, ((f29 ((a0.1, a0.2), ())).1.2.2.2.2.1, ((f29 ((a0.1, a0.2), ())).1.2.2.1, ()))))).1, ()))) || (!(bif (f31 ((f29 ((a0.1, a0.2), ())).1.1, ((f29 ((a0.1, a0.2), ())).1.2.1, ((f29 ((a0.1, a0.2), ())).1.2.2.2.2.1, ((f29 ((a0.1, a0.2), ())).1.2.2.1, ()))))).2.2.1 then (f31 ((f29 ((a0.1, a0.2), ())).1.1, ((f29 ((a0.1, a0.2), ())).1.2.1, ((f29 ((a0.1, a0.2), ())).1.2.2.2.2.1, ((f29 ((a0.1, a0.2), ())).1.2.2.2.1, ()))))).2.2.1 else false))) then
  (bif ((p34 ((f29 ((a0.1, a0.2), ())).1.1, ((f31 ((f29 ((a0.1, a0.2), ())).1.1, ((f29 ((a0.1, a0.2), ())).1.2.1, ((f29 ((a0.1, a0.2), ())).1.2.2.2.2.1, ((f29 ((a0.1, a0.2), ())).1.2.2.2.1, ()))))).1, ()))) || (!((bif (f31 ((f29 ((a0.1, a0.2), ())).1.1, ((f29 ((a0.1, a0.2), ())).1.2.1, ((f29 ((a0.1, a0.2), ())).1.2.2.2.2.1, ((f29 ((a0.1, a0.2), ())).1.2.2.1, ()))))).2.2.1 then (f31 ((f29 ((a0.1, a0.2), ())).1.1, ((f29 ((a0.1, a0.2), ())).1.2.1, ((f29 ((a0.1, a0.2), ())).1.2.2.2.2.1, ((f29 ((a0.1, a0.2), ())).1.2.2.2.1, ()))))).2.2.1 else false) && (bif (f34 ((f29 ((a0.1, a0.2), ())).1.1, ((f31 ((f29 ((a0.1, a0.2), ())).1.1, ((f29 ((a0.1, a0.2), ())).1.2.1, ((f29 ((a0.1, a0.2), ())).1.2.2.2.2.1, ((f29 ((a0.1, a0.2), ())).1.2.2.1, ()))))).1, ()))).1 then false else true)))) then
  (bif ((p35 ((f29 ((a0.1, a0.2), ())).1.1, ((f31 ((f29 ((a0.1, a0.2), ())).1.1, ((f29 ((a0.1, a0.2), ())).1.2.1, ((f29 ((a0.1, a0.2), ())).1.2.2.2.2.1, ((f29 ((a0.1, a0.2), ())).1.2.2.1, ()))))).1, ()))) || (!((bif (f31 ((f29 ((a0.1, a0.2), ())).1.1, ((f29 ((a0.1, a0.2), ())).1.2.1, ((f29 ((a0.1, a0.2), ())).1.2.2.2.2.1, ((f29 ((a0.1, a0.2), ())).1.2.2.1, ()))))).2.2.1 then (f31 ((f29 ((a0.1, a0.2), ())).1.1, ((f29 ((a0.1, a0.2), ())).1.2.1, ((f29 ((a0.1, a0.2), ())).1.2.2.2.2.1, ((f29 ((a0.1, a0.2), ())).1.2.2.2.1, ()))))).2.2.1 else false) && (bif ((f34 ((f29 ((a0.1, a0.2), ())).1.1, ((f31 ((f29 ((a0.1, a0.2), ())).1.1, ((f29 ((a0.1, a0.2), ())).1.2.1, ((f29 ((a0.1, a0.2), ())).1.2.2.2.2.1, ((f29 ((a0.1, a0.2), ())).1.2.2.1, ()))))).1, ()))).1 || (f34 ((f29 ((a0.1, a0.2), ())).1.1, ((f31 ((f29 ((a0.1, a0.2), ())).1.1, ((f29 ((a0.1, a0.2), ())).1.2.1, ((f29 ((a0.1, a0.2), ())).1.2.2.2.2.1, ((f29 ((a0.1, a0.2), ())).1.2.2.2.1, ()))))).1, ()))).1) then false else true)))) then
  (bif ((p35 ((f29 ((a0.1, a0.2), ())).1.1, ((f31 ((f29 ((a0.1, a0.2), ())).1.1, ((f29 ((a0.1, a0.2), ())).1.2.1, ((f29 ((a0.1, a0.2), ())).1.2.2.2.2.1, ((f29 ((a0.1, a0.2), ())).1.2.2.2.1, ()))))).1, ()))) || (!((bif (f31 ((f29 ((a0.1, a0.2), ())).1.1, ((f29 ((a0.1, a0.2), ())).1.2.1, ((f29 ((a0.1, a0.2), ())).1.2.2.2.2.1, ((f29 ((a0.1, a0.2), ())).1.2.2.1, ()))))).2.2.1 then (f31 ((f29 ((a0.1, a0.2), ())).1.1, ((f29 ((a0.1, a0.2), ())).1.2.1, ((f29 ((a0.1, a0.2), ())).1.2.2.2.2.1, ((f29 ((a0.1, a0.2), ())).1.2.2.2.1, ()))))).2.2.1 else false) && (bif ((f34 ((f29 ((a0.1, a0.2), ())).1.1, ((f31 ((f29 ((a0.1, a0.2), ())).1.1, ((f29 ((a0.1, a0.2), ())).1.2.1, ((f29 ((a0.1, a0.2), ())).1.2.2.2.2.1, ((f29 ((a0.1, a0.2), ())).1.2.2.1, ()))))).1, ()))).1 || (f34 ((f29 ((a0.1, a0.2), ())).1.1, ((f31 ((f29 ((a0.1, a0.2), ())).1.1, ((f29 ((a0.1, a0.2), ())).1.2.1, ((f29 ((a0.1, a0.2), ())).1.2.2.2.2.1, ((f29 ((a0.1, a0.2), ())).1.2.2.2.1, ()))))).1, ()))).1) then false else true)))) then
  (some ((((f31 ((f29 ((a0.1, a0.2), ())).1.1, ((f29 ((a0.1, a0.2), ())).1.2.1, ((f29 ((a0.1, a0.2), ())).1.2.2.2.2.1, ((f29 ((a0.1, a0.2), ())).1.2.2.1, ()))))).2.2.1 && (f31 ((f29 ((a0.1, a0.2), ())).1.1, ((f29 ((a0.1, a0.2), ())).1.2.1, ((f29 ((a0.1, a0.2), ())).1.2.2.2.2.1, ((f29 ((a0.1, a0.2), ())).1.2.2.2.1, ()))))).2.2.1) && (((f34 ((f29 ((a0.1, a0.2), ())).1.1, ((f31 ((f29 ((a0.1, a0.2), ())).1.1, ((f29 ((a0.1, a0.2), ())).1.2.1, ((f29 ((a0.1, a0.2), ())).1.2.2.2.2.1, ((f29 ((a0.1, a0.2), ())).1.2.2.1, ()))))).1, ()))).1 || (f34 ((f29 ((a0.1, a0.2), ())).1.1, ((f31 ((f29 ((a0.1, a0.2), ())).1.1, ((f29 ((a0.1, a0.2), ())).1.2.1, ((f29 ((a0.1, a0.2), ())).1.2.2.2.2.1, ((f29 ((a0.1, a0.2), ())).1.2.2.2.1, ()))))).1, ()))).1) || (decide ((f35 ((f29 ((a0.1, a0.2), ())).1.1, ((f31 ((f29 ((a0.1, a0.2), ())).1.1, ((f29 ((a0.1, a0.2), ())).1.2.1, ((f29 ((a0.1, a0.2), ())).1.2.2.2.2.1, ((f29 ((a0.1, a0.2), ())).1.2.2.1, ()))))).1, ()))).1 ≥ (f35 ((f29 ((a0.1, a0.2), ())).1.1, ((f31 ((f29 ((a0.1, a0.2), ())).1.1, ((f29 ((a0.1, a0.2), ())).1.2.1, ((f29 ((a0.1, a0.2), ())).1.2.2.2.2.1, ((f29 ((a0.1, a0.2), ())).1.2.2.2.1, ()))))).1, ()))).1)))), ()))
  else none)
  else none)
  else none)
  else none)
  else none)
  else none)
  else none)
  else none)
  else none)
  else none)
  else none)
  else none)
  else none)
  else none)
  else none)
  else none)
  else none)
  else none)
  else none
theorem r9 (p24 : DenS I24 → Bool) (f24 : DenS I24 → DenS O24) (p29 : DenS I29 → Bool) (f29 : DenS I29 → DenS O29) (p30 : DenS I30 → Bool) (f30 : DenS I30 → DenS O30) (p31 : DenS I31 → Bool) (f31 : DenS I31 → DenS O31) (p34 : DenS I34 → Bool) (f34 : DenS I34 → DenS O34) (p35 : DenS I35 → Bool) (f35 : DenS I35 → DenS O35) (a0 : Den (.pair (.int .i64) (.pair (.int .i64) (.pair (.int .u64) (.pair (.int .u64) (.pair (.int .u64) (.unit))))))) :
    run { P := Go.Proofs.Tryd.prog, sums := [(24, ⟨I24, O24, p24, f24⟩), (29, ⟨I29, O29, p29, f29⟩), (30, ⟨I30, O30, p30, f30⟩), (31, ⟨I31, O31, p31, f31⟩), (34, ⟨I34, O34, p34, f34⟩), (35, ⟨I35, O35, p35, f35⟩)], loops := [], globs := G1 } 9 9 Go.Proofs.Tryd.f9 I9 O9 (a0, ()) = t9 p24 f24 p29 f29 p30 f30 p31 f31 p34 f34 p35 f35 a0 := by kernel_rfl
noncomputable def T9 (x : DenS I9) : Option (DenS O9) := t9 S24.pre S24.F S29.pre S29.F S30.pre S30.F S31.pre S31.F S34.pre S34.F S35.pre S35.F x.1
noncomputable def C9 : Cfg := { P := Go.Proofs.Tryd.prog, sums := [(24, S24), (29, S29), (30, S30), (31, S31), (34, S34), (35, S35)], loops := [], globs := G1 }
noncomputable def S9 : Sum := sumOf I9 O9 T9 (DenS.dflt O9)
theorem S9_sound : Sound Go.Proofs.Tryd.prog G1 9 S9 :=
  fn_sound C9 9 9 Go.Proofs.Tryd.f9 mixedOk (by kernel_rfl) (by kernel_rfl) (by kernel_rfl) ⟨S24_sound, ⟨S29_sound, ⟨S30_sound, ⟨S31_sound, ⟨S34_sound, ⟨S35_sound, trivial⟩⟩⟩⟩⟩⟩ trivial I9 O9 T9 _ fun x => r9 S24.pre S24.F S29.pre S29.F S30.pre S30.F S31.pre S31.F S34.pre S34.F S35.pre S35.F x.1
end Vx
namespace Vx
open Go
theorem pre79 {x : DenS I79} {y : DenS O79} (h : T79 x = some y) : S79.pre x = true := sum_pre (T := T79) h
theorem fun79 {x : DenS I79} {y : DenS O79} (h : T79 x = some y) : S79.F x = y := sum_F (T := T79) h
theorem pre80 {x : DenS I80} {y : DenS O80} (h : T80 x = some y) : S80.pre x = true := sum_pre (T := T80) h
theorem fun80 {x : DenS I80} {y : DenS O80} (h : T80 x = some y) : S80.F x = y := sum_F (T := T80) h
theorem pre29 {x : DenS I29} {y : DenS O29} (h : T29 x = some y) : S29.pre x = true := sum_pre (T := T29) h
theorem fun29 {x : DenS I29} {y : DenS O29} (h : T29 x = some y) : S29.F x = y := sum_F (T := T29) h
theorem pre34 {x : DenS I34} {y : DenS O34} (h : T34 x = some y) : S34.pre x = true := sum_pre (T := T34) h
theorem fun34 {x : DenS I34} {y : DenS O34} (h : T34 x = some y) : S34.F x = y := sum_F (T := T34) h
theorem pre31 {x : DenS I31} {y : DenS O31} (h : T31 x = some y) : S31.pre x = true := sum_pre (T := T31) h
theorem fun31 {x : DenS I31} {y : DenS O31} (h : T31 x = some y) : S31.F x = y := sum_F (T := T31) h
theorem pre35 {x : DenS I35} {y : DenS O35} (h : T35 x = some y) : S35.pre x = true := sum_pre (T := T35) h
theorem fun35 {x : DenS I35} {y : DenS O35} (h : T35 x = some y) : S35.F x = y := sum_F (T := T35) h
theorem pre30 {x : DenS I30} {y : DenS O30} (h : T30 x = some y) : S30.pre x = true := sum_pre (T := T30) h
theorem fun30 {x : DenS I30} {y : DenS O30} (h : T30 x = some y) : S30.F x = y := sum_F (T := T30) h
end Vx
namespace VL
open Go Vx
theorem T79_in (n : Int) {w : Nat} (hw : 0 < w ∧ w < 100) : ∃ k : Nat, k < w ∧ T79 (n, (w : Int), ()) = some ((k : Int), ()) := by
  have hne : ((w : Int) != 0) = true := bne0_t _ (by omega)
  have ht : ∃ r : Int, Int.tmod n (w : Int) = r ∧ -(w : Int) < r ∧ r < (w : Int) := by
    rcases n with k | k
    · have e : Int.tmod (Int.ofNat k) (w : Int) = ((k % w : Nat) : Int) := rfl
      have := Nat.mod_lt k hw.1
      exact ⟨_, e, by omega, by omega⟩
    · have e : Int.tmod (Int.negSucc k) (w : Int) = -(((k + 1) % w : Nat) : Int) := rfl
      have := Nat.mod_lt (k + 1) hw.1
      exact ⟨_, e, by omega, by omega⟩
  obtain ⟨r, h1, h2, h3⟩ := ht
  obtain ⟨u, hu⟩ := Int.eq_ofNat_of_zero_le (show 0 ≤ r + (w : Int) by omega)
  refine ⟨u % w, Nat.mod_lt _ hw.1, ?_⟩
  show t79 n (w : Int) = _
  unfold t79
  rw [hne, cond_true, cond_true, h1, wrapI (by omega), hu]
  rfl
theorem T80_ok {f : Int} (hf : Fm f) : T80 (f, ()) = some ((fW f : Int), ()) := by
  show t80 S67.pre S67.F f = _
  unfold t80
  have p0 := T67_ok hf
  simp only [pre67 p0, fun67 p0, cond_true]
theorem cut_width {A W : Nat} (hW : W ≤ 64) : A * 2 ^ (64 - W) % 2 ^ 64 / 2 ^ (64 - W) = A % 2 ^ W := by
  have e : 2 ^ 64 = 2 ^ W * 2 ^ (64 - W) := by rw [← Nat.pow_add]; congr 1; omega
  rw [e, Nat.mul_mod_mul_right, Nat.mul_div_cancel _ (Nat.two_pow_pos _)]
theorem chk_mod {f : Int} (hf : Fm f) (A : Nat) : chk f (A % 2 ^ fW f) = 0 := chk_ok hf (Nat.mod_lt _ (Nat.two_pow_pos _))
theorem T29_ok (F M : Int) (A B C : Nat) : ∃ (f m : Int) (a b c : Nat), Fm f ∧ (0 ≤ m ∧ m ≤ 5) ∧ chk f a = 0 ∧ chk f b = 0 ∧ chk f c = 0 ∧
    T29 ((F, M, (A : Int), (B : Int), (C : Int), ()), ()) = some ((f, m, (a : Int), (b : Int), (c : Int), ()), ()) := by
  obtain ⟨f, hf, p1⟩ := T79_in F (w := 4) (by decide)
  obtain ⟨m, hm, p2⟩ := T79_in M (w := 6) (by decide)
  have hfm : Fm (f : Int) := ⟨by omega, by omega⟩
  have p3 := T80_ok hfm
  have hW := fW_le hfm
  refine ⟨f, m, A % 2 ^ fW f, B % 2 ^ fW f, C % 2 ^ fW f, hfm, ⟨by omega, by omega⟩, chk_mod hfm _, chk_mod hfm _, chk_mod hfm _, ?_⟩
  show t29 S79.pre S79.F S80.pre S80.F (F, M, (A : Int), (B : Int), (C : Int), ()) = _
  unfold t29
  have e1 : IntKind.wrap .u64 (IntKind.wrap .i64 (64 - (fW f : Int))) = ((64 - fW f : Nat) : Int) := by
    rw [wrapI (by omega), wrapU (by omega)]; omega
  have e2 : ∀ x : Nat, shrI .u64 (shlI .u64 (x : Int) ((64 - fW f : Nat) : Int)) ((64 - fW f : Nat) : Int) = ((x % 2 ^ fW f : Nat) : Int) := fun x => by
    rw [shlN _ _ (by omega), shrN _ _ (by omega), cut_width hW]
  rw [show ((4 : Nat) : Int) = 4 from rfl] at p1
  rw [show ((6 : Nat) : Int) = 6 from rfl] at p2
  simp only [pre79 p1, fun79 p1, pre79 p2, fun79 p2, pre80 p3, fun80 p3, cond_true, e1, e2]
theorem T34_eq {f : Int} (hf : Fm f) {a : Nat} (h : chk f a = 0) : T34 (f, (a : Int), ()) = some (nan f a, ()) := by
  show t34 S74.pre S74.F f a = _
  unfold t34
  have p0 := T74_eq hf h
  by_cases hz : eF f a = fullF f
  · rw [if_pos hz] at p0
    simp only [pre74 p0, fun74 p0, cond_true]
    rw [(full_vals hz).1]; rfl
  · rw [if_neg hz] at p0
    simp only [pre74 p0, fun74 p0, cond_true]
    rw [(part_vals hz).1]
theorem T35_eq {f : Int} (hf : Fm f) {a : Nat} (h : chk f a = 0) : T35 (f, (a : Int), ()) = some (place f a, ()) := by
  show t35 S80.pre S80.F f a = _
  unfold t35
  have p0 := T80_ok hf
  have h2 := fP_lt hf
  have h3 := fW_le hf
  have hal := abs_lt' (f := f) a
  have hpat := pat_mk h
  have hW1 : 2 ^ (fW f - 1) ≤ 2 ^ 63 := Nat.pow_le_pow_right (by decide) (by omega)
  have e1 : IntKind.wrap .u64 (IntKind.wrap .i64 ((fW f : Int) - 1)) = ((fW f - 1 : Nat) : Int) := by rw [wsub1 _ (by omega), wu_id _ (by omega)]
  have e2 : shlI .u64 1 ((fW f - 1 : Nat) : Int) = ((2 ^ (fW f - 1) : Nat) : Int) := shlI_one (by omega)
  simp only [pre80 p0, fun80 p0, cond_true, e1, e2]
  unfold place
  unfold mkF at hpat
  cases hs : sF f a with
  | false =>
    rw [hs, cond_false, Nat.add_zero] at hpat
    rw [ige_f _ _ (by omega), cond_false, cond_false, wrapI (by omega), ← hpat]
  | true =>
    rw [hs, cond_true] at hpat
    rw [ige_t _ _ (by omega), cond_true, cond_true, wu_sub _ _ (by have := pat_lt h; omega), show a - 2 ^ (fW f - 1) = absF f a by omega, wrapI (n := (absF f a : Int)) (by omega), wrapI (by omega)]
    rw [Int.zero_sub]
/-- a sum's bits and flags, in naturals -/
def addN (f m : Int) (a b : Nat) : Nat × Nat :=
  bif snan f a || snan f b then (nanF f, 1)
  else bif nan f a || nan f b then (nanF f, 0)
  else bif (isInf f a && isInf f b) && !(sF f a == sF f b) then (nanF f, 1)
  else bif isInf f a then (a, 0)
  else bif isInf f b then (b, 0)
  else sumBits f m (sF f a) (mant f a) (xpn f a) (sF f b) (mant f b) (xpn f b)
theorem addR_N (f m : Int) (a b : Nat) : addR f m a b = (((addN f m a b).1 : Int), ((addN f m a b).2 : Int), 0, ()) := by
  unfold addR addN
  cases snan f a || snan f b <;> cases nan f a || nan f b <;> cases (isInf f a && isInf f b) && !(sF f a == sF f b) <;> cases isInf f a <;> cases isInf f b <;> rfl
theorem T30_ok {f m : Int} (hf : Fm f) (hm : 0 ≤ m ∧ m ≤ 5) {a b : Nat} (ha : chk f a = 0) (hb : chk f b = 0) :
    T30 (f, m, (a : Int), (b : Int), ()) = some (((addN f m a b).1 : Int), ((addN f m a b).2 : Int), true, ()) := by
  show t30 S27.pre S27.F f m a b = _
  unfold t30
  have p0 := T27_eq f m (pat_lt ha) (pat_lt hb)
  unfold addA at p0
  rw [if_pos hf, if_pos hm, if_pos ⟨ha, hb⟩, addR_N] at p0
  simp only [pre27 p0, fun27 p0, cond_true]
  rfl
theorem T31_ok {f m : Int} (hf : Fm f) (hm : 0 ≤ m ∧ m ≤ 5) {a b : Nat} (ha : chk f a = 0) (hb : chk f b = 0) :
    T31 (f, m, (a : Int), (b : Int), ()) = some (((addN f m a (negF f b)).1 : Int), ((addN f m a (negF f b)).2 : Int), true, ()) := by
  show t31 S25.pre S25.F f m a b = _
  unfold t31
  have p0 := T25_eq f m (pat_lt ha) (pat_lt hb)
  unfold subA addA at p0
  rw [if_pos hf, if_pos hm, if_pos hb, if_pos ⟨ha, neg_chk hf b⟩, addR_N] at p0
  simp only [pre25 p0, fun25 p0, cond_true]
  rfl
theorem sum_parts {f m : Int} (hf : Fm f) (hm : 0 ≤ m ∧ m ≤ 5) (nx : Bool) (X : Nat) (ex : Int) (ny : Bool) (Y : Nat) (ey : Int) :
    ∃ s x g, sumBits f m nx X ex ny Y ey = (mkF f s x, g) ∧ x ≤ infF f := by
  obtain ⟨s, _, x, g, h, _, h2, _⟩ := sum_mir hf hm nx X ex ny Y ey
  exact ⟨s, x, g, h, h2⟩
theorem addN_chk {f m : Int} (hf : Fm f) (hm : 0 ≤ m ∧ m ≤ 5) {a b : Nat} (ha : chk f a = 0) (hb : chk f b = 0) : chk f (addN f m a b).1 = 0 := by
  have hn := (nan_nanF hf).2
  unfold addN
  cases snan f a || snan f b
  · cases nan f a || nan f b
    · cases (isInf f a && isInf f b) && !(sF f a == sF f b)
      · cases isInf f a
        · cases isInf f b
          · obtain ⟨s, x, g, h, hx⟩ := sum_parts hf hm (sF f a) (mant f a) (xpn f a) (sF f b) (mant f b) (xpn f b)
            simp only [cond_false]
            rw [h]
            exact mk_chk hf _ (Nat.lt_of_le_of_lt hx (infF_lt hf))
          · exact hb
        · exact ha
      · exact hn
    · exact hn
  · exact hn
theorem addN_comm {f m : Int} (hf : Fm f) {a b : Nat} (ha : chk f a = 0) (hb : chk f b = 0) : addN f m a b = addN f m b a := by
  have h := addR_comm (m := m) hf ha hb
  rw [addR_N, addR_N] at h
  have h1 : (addN f m a b).1 = (addN f m b a).1 := by have := congrArg (fun t : Int × Int × Int × Unit => t.1) h; exact Int.ofNat_inj.1 this
  have h2 : (addN f m a b).2 = (addN f m b a).2 := by have := congrArg (fun t : Int × Int × Int × Unit => t.2.1) h; exact Int.ofNat_inj.1 this
  exact Prod.ext h1 h2
theorem place_mant {f : Int} (hf : Fm f) {a : Nat} (h : place f a ≠ 0) : mant f a ≠ 0 := fun hm => by
  have habs : absF f a ≠ 0 := fun h0 => h (by unfold place; rw [h0]; cases sF f a <;> rfl)
  have hpp := Nat.two_pow_pos (fP f - 1)
  unfold mant at hm
  split at hm
  · rename_i he
    exact habs ((zero_iff hf a).2 ⟨he, hm⟩)
  · omega
end VL
namespace VL
open Go Vx
/-- a number as whole least steps -/
def vI (f : Int) (neg : Bool) (X : Nat) (e : Int) : Int := bif neg then -((X * 2 ^ (e - qm f).toNat : Nat) : Int) else ((X * 2 ^ (e - qm f).toNat : Nat) : Int)
theorem rnd_qm {f : Int} (hf : Fm f) (m : Int) (neg : Bool) {N : Nat} (hN : N ≠ 0) {e : Int} (he : qm f ≤ e) :
    rndN f m neg N e false = (mkF f neg (rndM f m neg (N * 2 ^ (e - qm f).toNat) (qm f)).1, (rndM f m neg (N * 2 ^ (e - qm f).toNat) (qm f)).2) := by
  have h := rnd_scale (f := f) (m := m) (neg := neg) hf hN (e - qm f).toNat (qm f)
  rw [show qm f + ((e - qm f).toNat : Int) = e by omega] at h
  rw [← h, rnd_M hf]
theorem sum_form {f : Int} (hf : Fm f) (nx : Bool) (X : Nat) (ex : Int) (ny : Bool) (Y : Nat) (ey : Int) (hx : qm f ≤ ex) (hy : qm f ≤ ey) :
    (vI f nx X ex + vI f ny Y ey = 0 → ∀ m, ∃ s, sumBits f m nx X ex ny Y ey = (sgnF f s, 0)) ∧
    (vI f nx X ex + vI f ny Y ey ≠ 0 → ∀ m, sumBits f m nx X ex ny Y ey =
      (mkF f (decide (vI f nx X ex + vI f ny Y ey < 0)) (rndM f m (decide (vI f nx X ex + vI f ny Y ey < 0)) (vI f nx X ex + vI f ny Y ey).natAbs (qm f)).1,
       (rndM f m (decide (vI f nx X ex + vI f ny Y ey < 0)) (vI f nx X ex + vI f ny Y ey).natAbs (qm f)).2)) := by
  obtain ⟨e, he⟩ : ∃ e, (if ex ≤ ey then ex else ey) = e := ⟨_, rfl⟩
  have he2 : e ≤ ex ∧ e ≤ ey ∧ qm f ≤ e := by rw [← he]; split <;> omega
  obtain ⟨a, ha⟩ : ∃ a, X * 2 ^ (ex - e).toNat = a := ⟨_, rfl⟩
  obtain ⟨b, hb⟩ : ∃ b, Y * 2 ^ (ey - e).toNat = b := ⟨_, rfl⟩
  have hS : ∀ m, sumBits f m nx X ex ny Y ey = if nx = ny then (if a + b = 0 then (sgnF f nx, 0) else rndN f m nx (a + b) e false)
      else if a = b then (sgnF f (m == 4), 0) else if b < a then rndN f m nx (a - b) e false else rndN f m ny (b - a) e false := fun m => by
    unfold sumBits
    simp only [he, ha, hb]
  have hp := Nat.two_pow_pos (e - qm f).toNat
  have hA : X * 2 ^ (ex - qm f).toNat = a * 2 ^ (e - qm f).toNat := by
    rw [← ha, Nat.mul_assoc, ← Nat.pow_add]; congr 2; omega
  have hB : Y * 2 ^ (ey - qm f).toNat = b * 2 ^ (e - qm f).toNat := by
    rw [← hb, Nat.mul_assoc, ← Nat.pow_add]; congr 2; omega
  have hr : ∀ m neg N, N ≠ 0 → rndN f m neg N e false = (mkF f neg (rndM f m neg (N * 2 ^ (e - qm f).toNat) (qm f)).1, (rndM f m neg (N * 2 ^ (e - qm f).toNat) (qm f)).2) :=
    fun m neg N hN => rnd_qm hf m neg hN he2.2.2
  have hsum := Nat.add_mul a b (2 ^ (e - qm f).toNat)
  have hd1 := Nat.sub_mul a b (2 ^ (e - qm f).toNat)
  have hd2 := Nat.sub_mul b a (2 ^ (e - qm f).toNat)
  unfold vI
  rw [hA, hB]
  have hz : ∀ n : Nat, n * 2 ^ (e - qm f).toNat = 0 → n = 0 := fun n h => by
    rcases Nat.mul_eq_zero.1 h with h | h
    · exact h
    · omega
  have hz2 : ∀ n : Nat, n ≠ 0 → n * 2 ^ (e - qm f).toNat ≠ 0 := fun n h h2 => h (hz n h2)
  by_cases hn : nx = ny
  · subst hn
    have hT : (bif nx then -((a * 2 ^ (e - qm f).toNat : Nat) : Int) else ((a * 2 ^ (e - qm f).toNat : Nat) : Int)) + (bif nx then -((b * 2 ^ (e - qm f).toNat : Nat) : Int) else ((b * 2 ^ (e - qm f).toNat : Nat) : Int)) = bif nx then -(((a + b) * 2 ^ (e - qm f).toNat : Nat) : Int) else (((a + b) * 2 ^ (e - qm f).toNat : Nat) : Int) := by
      rw [hsum]; cases nx <;> simp only [cond_true, cond_false] <;> omega
    rw [hT]
    refine ⟨fun h m => ?_, fun h m => ?_⟩
    · have : a + b = 0 := hz _ (by cases nx <;> simp only [cond_true, cond_false] at h <;> omega)
      exact ⟨nx, by rw [hS, if_pos rfl, if_pos this]⟩
    · have h0 : a + b ≠ 0 := fun h1 => h (by rw [h1, Nat.zero_mul]; cases nx <;> rfl)
      have h1 := hz2 _ h0
      rw [hS, if_pos rfl, if_neg h0, hr _ _ _ h0]
      generalize (a + b) * 2 ^ (e - qm f).toNat = n at *
      cases nx <;> simp only [cond_true, cond_false]
      · rw [decide_eq_false (by omega), Int.natAbs_natCast]
      · rw [decide_eq_true (by omega), Int.natAbs_neg, Int.natAbs_natCast]
  · have hny : ny = !nx := by cases nx <;> cases ny <;> first | rfl | exact absurd rfl hn
    subst hny
    rcases Nat.lt_trichotomy a b with hab | hab | hab
    · have hT : (bif nx then -((a * 2 ^ (e - qm f).toNat : Nat) : Int) else ((a * 2 ^ (e - qm f).toNat : Nat) : Int)) + (bif !nx then -((b * 2 ^ (e - qm f).toNat : Nat) : Int) else ((b * 2 ^ (e - qm f).toNat : Nat) : Int)) = bif !nx then -(((b - a) * 2 ^ (e - qm f).toNat : Nat) : Int) else (((b - a) * 2 ^ (e - qm f).toNat : Nat) : Int) := by
        have := Nat.mul_le_mul_right (2 ^ (e - qm f).toNat) (Nat.le_of_lt hab)
        rw [hd2]; cases nx <;> simp only [cond_true, cond_false, Bool.not_true, Bool.not_false] <;> omega
      have h0 : b - a ≠ 0 := by omega
      have h1 := hz2 _ h0
      rw [hT]
      refine ⟨fun h => ?_, fun h m => ?_⟩
      · exfalso
        generalize (b - a) * 2 ^ (e - qm f).toNat = n at *
        cases nx <;> simp only [cond_true, cond_false, Bool.not_true, Bool.not_false] at h <;> omega
      · rw [hS, if_neg hn, if_neg (show ¬ a = b by omega), if_neg (show ¬ b < a by omega), hr _ _ _ h0]
        generalize (b - a) * 2 ^ (e - qm f).toNat = n at *
        cases nx <;> simp only [cond_true, cond_false, Bool.not_true, Bool.not_false]
        · rw [decide_eq_true (by omega), Int.natAbs_neg, Int.natAbs_natCast]
        · rw [decide_eq_false (by omega), Int.natAbs_natCast]
    · subst hab
      refine ⟨fun _ m => ⟨m == 4, by rw [hS, if_neg hn, if_pos rfl]⟩, fun h => ?_⟩
      exfalso
      apply h
      cases nx <;> simp only [cond_true, cond_false, Bool.not_true, Bool.not_false] <;> omega
    · have hT : (bif nx then -((a * 2 ^ (e - qm f).toNat : Nat) : Int) else ((a * 2 ^ (e - qm f).toNat : Nat) : Int)) + (bif !nx then -((b * 2 ^ (e - qm f).toNat : Nat) : Int) else ((b * 2 ^ (e - qm f).toNat : Nat) : Int)) = bif nx then -(((a - b) * 2 ^ (e - qm f).toNat : Nat) : Int) else (((a - b) * 2 ^ (e - qm f).toNat : Nat) : Int) := by
        have := Nat.mul_le_mul_right (2 ^ (e - qm f).toNat) (Nat.le_of_lt hab)
        rw [hd1]; cases nx <;> simp only [cond_true, cond_false, Bool.not_true, Bool.not_false] <;> omega
      have h0 : a - b ≠ 0 := by omega
      have h1 := hz2 _ h0
      rw [hT]
      refine ⟨fun h => ?_, fun h m => ?_⟩
      · exfalso
        generalize (a - b) * 2 ^ (e - qm f).toNat = n at *
        cases nx <;> simp only [cond_true, cond_false] at h <;> omega
      · rw [hS, if_neg hn, if_neg (show ¬ a = b by omega), if_pos hab, hr _ _ _ h0]
        generalize (a - b) * 2 ^ (e - qm f).toNat = n at *
        cases nx <;> simp only [cond_true, cond_false]
        · rw [decide_eq_false (by omega), Int.natAbs_natCast]
        · rw [decide_eq_true (by omega), Int.natAbs_neg, Int.natAbs_natCast]
end VL
namespace VL
open Go Vx
theorem xpn_ge (f : Int) (a : Nat) : qm f ≤ xpn f a := by
  unfold xpn qm
  split <;> omega
/-- six values, the first i of them filled -/
def sl (V : Nat → Int) (i : Nat) : List Int := [if 0 < i then V 0 else 0, if 1 < i then V 1 else 0, if 2 < i then V 2 else 0, if 3 < i then V 3 else 0, if 4 < i then V 4 else 0, if 5 < i then V 5 else 0]
end VL
namespace VL
open Go Vx
def vA (f : Int) (a : Nat) : Int := vI f (sF f a) (mant f a) (xpn f a)
theorem plc_zero (f m : Int) : plcI f m 0 = 0 := by
  unfold plcI magI
  rw [if_neg (by omega)]
  rfl
theorem sum_plc {f m : Int} (hf : Fm f) {a c : Nat} (fa : eF f a ≠ fullF f) (fc : eF f c ≠ fullF f) : place f (addN f m a c).1 = plcI f m (vA f a + vA f c) := by
  obtain ⟨v1, v2, v3⟩ := part_vals fa
  obtain ⟨w1, w2, w3⟩ := part_vals fc
  have hadd : addN f m a c = sumBits f m (sF f a) (mant f a) (xpn f a) (sF f c) (mant f c) (xpn f c) := by
    unfold addN
    rw [v1, v2, v3, w1, w2, w3]; rfl
  obtain ⟨hz, hnz⟩ := sum_form hf (sF f a) (mant f a) (xpn f a) (sF f c) (mant f c) (xpn f c) (xpn_ge f a) (xpn_ge f c)
  rw [hadd]
  unfold vA
  by_cases h0 : vI f (sF f a) (mant f a) (xpn f a) + vI f (sF f c) (mant f c) (xpn f c) = 0
  · obtain ⟨s, hs⟩ := hz h0 m
    rw [hs, h0, plc_zero, sgn_zero, mk_place s (Nat.two_pow_pos _)]
    cases s <;> rfl
  · rw [hnz h0 m]
    generalize vI f (sF f a) (mant f a) (xpn f a) + vI f (sF f c) (mant f c) (xpn f c) = S at *
    have hle := rndM_le hf m (decide (S < 0)) S.natAbs (qm f)
    rw [mk_place _ (Nat.lt_of_le_of_lt hle (infF_lt hf))]
    unfold plcI magI
    rw [if_neg (show ¬ S.natAbs = 0 by omega), if_neg (show ¬ S.natAbs = 0 by omega)]
    by_cases hS : S < 0
    · rw [decide_eq_true hS, if_pos hS]; rfl
    · rw [decide_eq_false hS, if_neg hS]; rfl
theorem abs_zero_mant {f : Int} (hf : Fm f) {a : Nat} (h : absF f a = 0) : mant f a = 0 := by
  have h0 := (zero_iff hf a).1 h
  unfold mant; rw [if_pos h0.1]; exact h0.2
theorem self_plc {f : Int} (hf : Fm f) {a : Nat} (ha : chk f a = 0) (fa : eF f a ≠ fullF f) : place f a = plcI f 0 (vA f a) := by
  by_cases h0 : mant f a = 0
  · have hv : vA f a = 0 := by
      unfold vA vI; rw [h0, Nat.zero_mul]; cases sF f a <;> rfl
    rw [hv, plc_zero]
    by_cases hp : place f a = 0
    · exact hp
    · exact absurd h0 (place_mant hf hp)
  · have hr := rnd_self (m := 0) hf ha fa h0
    rw [rnd_qm hf 0 (sF f a) h0 (xpn_ge f a)] at hr
    have h1 : mkF f (sF f a) (rndM f 0 (sF f a) (mant f a * 2 ^ (xpn f a - qm f).toNat) (qm f)).1 = a := congrArg Prod.fst hr
    have hn0 : mant f a * 2 ^ (xpn f a - qm f).toNat ≠ 0 := Nat.ne_of_gt (Nat.mul_pos (by omega) (Nat.two_pow_pos _))
    have hle := rndM_le hf 0 (sF f a) (mant f a * 2 ^ (xpn f a - qm f).toNat) (qm f)
    have h2 : place f a = place f (mkF f (sF f a) (rndM f 0 (sF f a) (mant f a * 2 ^ (xpn f a - qm f).toNat) (qm f)).1) := by rw [h1]
    rw [h2, mk_place _ (Nat.lt_of_le_of_lt hle (infF_lt hf))]
    unfold vA vI plcI magI
    generalize mant f a * 2 ^ (xpn f a - qm f).toNat = n at *
    cases sF f a
    · simp only [cond_false]
      rw [if_neg (show ¬ ((n : Int) < 0) by omega), Int.natAbs_natCast, if_neg hn0]
    · simp only [cond_true]
      rw [if_pos (show (-(n : Int) < 0) by omega), Int.natAbs_neg, Int.natAbs_natCast, if_neg hn0]
theorem place_abs (f : Int) (a : Nat) : (place f a).natAbs = absF f a := by
  unfold place; cases sF f a <;> simp
theorem same_val {f : Int} (hf : Fm f) {a b : Nat} (h : place f a = place f b) : vA f a = vA f b := by
  have habs : absF f a = absF f b := by rw [← place_abs, ← place_abs, h]
  by_cases h0 : absF f a = 0
  · have e1 := abs_zero_mant hf h0
    have e2 := abs_zero_mant hf (habs ▸ h0)
    unfold vA vI
    rw [e1, e2, Nat.zero_mul, Nat.zero_mul]
    cases sF f a <;> cases sF f b <;> rfl
  · have hs : sF f a = sF f b := by
      unfold place at h
      rw [habs] at h h0
      cases h1 : sF f a <;> cases h2 : sF f b <;> rw [h1, h2] at h <;> simp only [cond_true, cond_false] at h <;> first | rfl | omega
    have he : eF f a = eF f b := by rw [eF_abs hf, eF_abs hf, habs]
    have hm : mF f a = mF f b := by rw [mF_abs hf, mF_abs hf, habs]
    unfold vA mant xpn
    rw [hs, he, hm]
theorem val_mono {f : Int} (hf : Fm f) {a b : Nat} (ha : chk f a = 0) (hb : chk f b = 0) (fa : eF f a ≠ fullF f) (fb : eF f b ≠ fullF f) (h : place f a ≤ place f b) : vA f a ≤ vA f b := by
  by_cases hv : vA f a ≤ vA f b
  · exact hv
  · have h1 := plc_mono (m := 0) hf (by omega) (S := vA f b) (T := vA f a) (by omega)
    rw [← self_plc hf ha fa, ← self_plc hf hb fb] at h1
    rw [same_val hf (show place f a = place f b by omega)]
    exact Int.le_refl _
theorem num_full {f : Int} {a : Nat} (h : nan f a = false) : isInf f a = decide (eF f a = fullF f) := by
  unfold nan at h
  unfold isInf
  cases h1 : (eF f a == fullF f)
  · rw [decide_eq_false (by simpa using h1)]; rfl
  · rw [decide_eq_true (by simpa using h1)]
    rw [h1] at h
    cases h2 : (mF f a == 0)
    · rw [bne, h2] at h; cases h
    · rfl
theorem place_le {f : Int} (hf : Fm f) {a : Nat} (h : nan f a = false) : -(infF f : Int) ≤ place f a ∧ place f a ≤ infF f := by
  have := num_le hf h
  unfold place
  cases sF f a <;> simp only [cond_true, cond_false] <;> omega
theorem place_inf {f : Int} (hf : Fm f) {a : Nat} (h : isInf f a = true) : place f a = bif sF f a then -(infF f : Int) else infF f := by
  have e1 : absF f a = infF f := (inf_iff hf a).2 (by unfold isInf at h; simpa using h)
  unfold place; rw [e1]
theorem inf_of_place {f : Int} (hf : Fm f) {a : Nat} (h : (place f a).natAbs = infF f) : isInf f a = true := by
  rw [place_abs] at h
  have := (inf_iff hf a).1 h
  unfold isInf; simp [this.1, this.2]
theorem add_mono {f m : Int} (hf : Fm f) (hm : 0 ≤ m ∧ m ≤ 5) {a b c : Nat} (ha : chk f a = 0) (hb : chk f b = 0) (hc : chk f c = 0) (na : nan f a = false) (nb : nan f b = false) (nc : nan f c = false) (h : place f a ≤ place f b)
    (hx : nan f (addN f m a c).1 = false) (hy : nan f (addN f m b c).1 = false) : place f (addN f m a c).1 ≤ place f (addN f m b c).1 := by
  have hn := (nan_nanF hf).1
  have hp := infF_pos hf
  have bx := place_le hf hx
  have bY := place_le hf hy
  have hadd : ∀ x, nan f x = false → nan f (addN f m x c).1 = false → (addN f m x c).1 = bif isInf f x then x else bif isInf f c then c else (sumBits f m (sF f x) (mant f x) (xpn f x) (sF f c) (mant f c) (xpn f c)).1 := fun x n1 n2 => by
    unfold addN at n2 ⊢
    rw [n1, nc, snan_nan n1, snan_nan nc] at n2 ⊢
    simp only [Bool.or_self, cond_false] at n2 ⊢
    cases h1 : (isInf f x && isInf f c && !(sF f x == sF f c))
    · cases isInf f x <;> cases isInf f c <;> rfl
    · rw [h1] at n2
      have h' : nan f (nanF f) = false := n2
      rw [hn] at h'; cases h'
  have hxa := hadd a na hx
  have hyb := hadd b nb hy
  have hopp : ∀ x, chk f x = 0 → nan f x = false → nan f (addN f m x c).1 = false → isInf f c = true → isInf f x = true → x = c := fun x k1 n1 n2 i1 i2 => by
    apply inf_same hf k1 hc i2 i1
    unfold addN at n2
    rw [n1, nc, snan_nan n1, snan_nan nc, i1, i2] at n2
    cases h1 : sF f x <;> cases h2 : sF f c <;> rw [h1, h2] at n2 <;> first | rfl | (exfalso; have h' : nan f (nanF f) = false := n2; rw [hn] at h'; cases h')
  cases ic : isInf f c with
  | true =>
    have e1 : (addN f m a c).1 = c := by
      rw [hxa, ic]
      cases ia : isInf f a
      · rfl
      · exact hopp a ha na hx ic ia
    have e2 : (addN f m b c).1 = c := by
      rw [hyb, ic]
      cases ib : isInf f b
      · rfl
      · exact hopp b hb nb hy ic ib
    rw [e1, e2]; exact Int.le_refl _
  | false =>
    cases ia : isInf f a with
    | true =>
      rw [ia] at hxa
      have hxa : (addN f m a c).1 = a := hxa
      have pa := place_inf hf ia
      rw [hxa]
      cases hs : sF f a with
      | true => rw [hs] at pa; simp only [cond_true] at pa; omega
      | false =>
        rw [hs] at pa; simp only [cond_false] at pa
        have pb := place_le hf nb
        have ib := inf_of_place hf (a := b) (by omega)
        rw [ib] at hyb
        have hyb : (addN f m b c).1 = b := hyb
        rw [hyb]; exact h
    | false =>
      cases ib : isInf f b with
      | true =>
        rw [ib] at hyb
        have hyb : (addN f m b c).1 = b := hyb
        have pb := place_inf hf ib
        rw [hyb]
        cases hs : sF f b with
        | false => rw [hs] at pb; simp only [cond_false] at pb; omega
        | true =>
          exfalso
          rw [hs] at pb; simp only [cond_true] at pb
          have pa := place_le hf na
          have := inf_of_place hf (a := a) (by omega)
          rw [ia] at this; cases this
      | false =>
        have fa : eF f a ≠ fullF f := by rw [num_full na] at ia; simpa using ia
        have fb : eF f b ≠ fullF f := by rw [num_full nb] at ib; simpa using ib
        have fc : eF f c ≠ fullF f := by rw [num_full nc] at ic; simpa using ic
        rw [sum_plc hf fa fc, sum_plc hf fb fc]
        have := val_mono hf ha hb fa fb h
        exact plc_mono hf hm (by omega)
theorem order_facts {f m : Int} (hf : Fm f) (hm : 0 ≤ m ∧ m ≤ 5) {a b c : Nat} (ha : chk f a = 0) (hb : chk f b = 0) (hc : chk f c = 0) (na : nan f a = false) (nb : nan f b = false) (nc : nan f c = false) (h : place f a ≤ place f b) :
    ((!nan f (addN f m a c).1 && !nan f (addN f m b c).1) && decide (place f (addN f m a c).1 > place f (addN f m b c).1)) = false ∧
    ((nan f (addN f m c (negF f a)).1 || nan f (addN f m c (negF f b)).1) || decide (place f (addN f m c (negF f a)).1 ≥ place f (addN f m c (negF f b)).1)) = true := by
  refine ⟨?_, ?_⟩
  · cases hx : nan f (addN f m a c).1
    · cases hy : nan f (addN f m b c).1
      · have := add_mono hf hm ha hb hc na nb nc h hx hy
        rw [decide_eq_false (by omega)]; rfl
      · rfl
    · rfl
  · have ka := neg_chk hf a
    have kb := neg_chk hf b
    rw [addN_comm hf hc ka, addN_comm hf hc kb]
    cases hx : nan f (addN f m (negF f a) c).1
    · cases hy : nan f (addN f m (negF f b) c).1
      · have := add_mono hf hm kb ka hc ((nan_neg hf b).trans nb) ((nan_neg hf a).trans na) nc (by rw [neg_place, neg_place]; omega) hy hx
        rw [decide_eq_true (show place f (addN f m (negF f a) c).1 ≥ place f (addN f m (negF f b) c).1 from this)]; rfl
      · rfl
    · rfl
theorem T9_true (F M : Int) (A B C : Nat) : T9 ((F, M, (A : Int), (B : Int), (C : Int), ()), ()) = some (true, ()) := by
  show t9 S24.pre S24.F S29.pre S29.F S30.pre S30.F S31.pre S31.F S34.pre S34.F S35.pre S35.F (F, M, (A : Int), (B : Int), (C : Int), ()) = _
  unfold t9
  obtain ⟨f, m, a, b, c, hf, hm, ha, hb, hc, p29⟩ := T29_ok F M A B C
  have n1 := T34_eq hf ha
  have n2 := T34_eq hf hb
  have n3 := T34_eq hf hc
  simp only [pre24 t24_true, fun24 t24_true, cond_true, Bool.not_true, cond_false, pre29 p29, fun29 p29, pre34 n1, fun34 n1, pre34 n2, fun34 n2, pre34 n3, fun34 n3, Bool.true_or]
  cases na : nan f a
  · cases nb : nan f b
    · cases nc : nan f c
      · have r1 := T35_eq hf ha
        have r2 := T35_eq hf hb
        have p1 := T30_ok hf hm ha hc
        have p2 := T30_ok hf hm hb hc
        have p3 := T31_ok hf hm hc ha
        have p4 := T31_ok hf hm hc hb
        have k1 := addN_chk hf hm ha hc
        have k2 := addN_chk hf hm hb hc
        have k3 := addN_chk hf hm hc (neg_chk hf a)
        have k4 := addN_chk hf hm hc (neg_chk hf b)
        have m1 := T34_eq hf k1
        have m2 := T34_eq hf k2
        have m3 := T34_eq hf k3
        have m4 := T34_eq hf k4
        have q1 := T35_eq hf k1
        have q2 := T35_eq hf k2
        have q3 := T35_eq hf k3
        have q4 := T35_eq hf k4
        simp only [Bool.or_self, cond_false, pre35 r1, fun35 r1, pre35 r2, fun35 r2, cond_true]
        by_cases h : place f a > place f b
        · obtain ⟨e1, e2⟩ := order_facts hf hm hb ha hc nb na nc (show place f b ≤ place f a by omega)
          rw [decide_eq_true h, cond_true]
          simp only [pre30 p1, fun30 p1, pre30 p2, fun30 p2, pre31 p3, fun31 p3, pre31 p4, fun31 p4, pre34 m1, fun34 m1, pre34 m2, fun34 m2, pre34 m3, fun34 m3, pre34 m4, fun34 m4, pre35 q1, fun35 q1, pre35 q2, fun35 q2, pre35 q3, fun35 q3, pre35 q4, fun35 q4,
            cond_true, cond_false, Bool.true_or, Bool.not_true, Bool.or_self, Bool.false_or, e1, e2, Bool.true_and]
        · obtain ⟨e1, e2⟩ := order_facts hf hm ha hb hc na nb nc (show place f a ≤ place f b by omega)
          rw [decide_eq_false h, cond_false]
          simp only [pre30 p1, fun30 p1, pre30 p2, fun30 p2, pre31 p3, fun31 p3, pre31 p4, fun31 p4, pre34 m1, fun34 m1, pre34 m2, fun34 m2, pre34 m3, fun34 m3, pre34 m4, fun34 m4, pre35 q1, fun35 q1, pre35 q2, fun35 q2, pre35 q3, fun35 q3, pre35 q4, fun35 q4,
            cond_true, cond_false, Bool.true_or, Bool.not_true, Bool.or_self, Bool.false_or, e1, e2, Bool.true_and]
      · rfl
    · rfl
  · rfl
end VL
namespace Vx
open Go Go.RowKit Go.ChangeShapes Go.WideShapes
/-- numbers in their ranges, lengths below 2^63 -/
def wfD : (τ : Shape) → Den τ → Prop
  | .int k, n => k.min ≤ n ∧ n ≤ k.max
  | .slice e, xs => xs.length < lim ∧ ∀ x ∈ xs, wfD e x
  | .pair a b, x => wfD a x.1 ∧ wfD b x.2
  | .bool, _ => True
  | .str, _ => True
  | .fn, _ => True
  | .unit, _ => True
theorem DRep.wfD {w : World} {S : Nat → Prop} : ∀ {τ : Shape} {x : Den τ} {cs : List Value}, DRep w S τ x cs → wfD τ x
  | .int _, _, _, h => h.2
  | .bool, _, _, _ => trivial
  | .str, _, _, _ => trivial
  | .fn, _, _, _ => trivial
  | .unit, _, _, _ => trivial
  | .slice _, xs, _, ⟨A, c, _, h1, h2, h3⟩ => by
    refine ⟨Nat.lt_of_le_of_lt h1 h2, fun x hx => ?_⟩
    obtain ⟨r, o, vs, T, fz, _, _, _, h⟩ := h3 (List.ne_nil_of_mem hx)
    obtain ⟨i, hi⟩ := List.getElem?_of_mem hx
    obtain ⟨ds, hd, _⟩ := h i x hi
    exact hd.wfD
  | .pair _ _, _, _, ⟨c1, c2, _, h1, h2⟩ => ⟨h1.wfD, h2.wfD⟩
def wfS : (sg : Sig) → DenS sg → Prop
  | [], _ => True
  | (_, τ) :: r, x => wfD τ x.1 ∧ wfS r x.2
/-- what a datum says -/
def undat {H : Type} : (τ : Shape) → (DataW H → Option (Den τ)) × (List (DataW H) → Option (Den τ))
  | .int k => (fun d => match d with | .lit (.int k' n) => if k' = k then some n else none | _ => none, fun _ => none)
  | .bool => (fun d => match d with | .lit (.bool b) => some b | _ => none, fun _ => none)
  | .unit => (fun d => match d with | .agg [] => some () | _ => none, fun l => match l with | [] => some () | _ => none)
  | .pair a b =>
    let f := fun l => match l with
      | d :: r => (match (undat a).1 d, (undat b).2 r with | some x, some y => some (x, y) | _, _ => none)
      | [] => none
    (fun d => match d with | .agg l => f l | _ => none, f)
  | .str => (fun _ => none, fun _ => none)
  | .fn => (fun _ => none, fun _ => none)
  | .slice _ => (fun _ => none, fun _ => none)
/-- a type's shape -/
def fitF (P : Program) (g : TypeId → Shape → Bool) : List Field → Nat → Shape → Bool
  | [], _, .unit => true
  | f :: fs, o, .pair a b => (f.offset == o) && (P.cellsOf f.type == a.width) && g f.type a && fitF P g fs (o + a.width) b
  | _, _, _ => false
def fitB (P : Program) : Nat → TypeId → Shape → Bool
  | 0, _, _ => false
  | n + 1, t, τ => match P.underlying t with
    | some (.int k) => (match τ with | .int k' => decide (k = k') | _ => false)
    | some .bool => (match τ with | .bool => true | _ => false)
    | some (.slice e) => (match τ with | .slice σ => (P.cellsOf e == σ.width) && decide (0 < σ.width) && fitB P n e σ | _ => false)
    | some (.struct fs) => (P.cellsOf t == τ.width) && fitF P (fitB P n) fs.toList 0 τ
    | _ => false
theorem choose_list {A : Type} {Q : Nat → A → Prop} : ∀ (n : Nat), (∀ i, i < n → ∃ x, Q i x) → ∃ xs : List A, xs.length = n ∧ ∀ i x, xs[i]? = some x → Q i x
  | 0, _ => ⟨[], rfl, fun i x h => by simp at h⟩
  | n + 1, h => by
    obtain ⟨xs, h1, h2⟩ := choose_list n fun i hi => h i (by omega)
    obtain ⟨x, hx⟩ := h n (by omega)
    refine ⟨xs ++ [x], by simp [h1], fun i y hy => ?_⟩
    rcases Nat.lt_or_ge i n with hi | hi
    · rw [List.getElem?_append_left (by omega)] at hy
      exact h2 i y hy
    · rw [List.getElem?_append_right (by omega)] at hy
      have : i = n := by
        have := (List.getElem?_eq_some_iff.1 hy).1
        simp at this; omega
      subst this
      simp [h1] at hy
      exact hy ▸ hx
theorem wf_int {k : IntKind} {n : Int} (h : (Lit.int k n).wf = true) : k.min ≤ n ∧ n ≤ k.max := by
  simpa [Lit.wf] using h
section
variable {H : Type} {enc : TypeId × Value → H} {P : Program} {W : World} {spare : Nat → Bool} {held : Bool}
theorem fitF_ok {n : Nat} {m : Nat} {cs : List Value} (ih : ∀ (t : TypeId) (τ : Shape) (cs : List Value) (d : DataW H) (p : List MemPlace), fitB P n t τ = true → DataW.trod enc P W 0 spare held m t cs = some (d, p) → ∃ x : Den τ, DRep W (fun q => q < W.heap.size) τ x cs ∧ ∀ y, (undat τ).1 d = some y → x = y) :
    ∀ (l : List Field) (o : Nat) (τ : Shape) (xs : List (DataW H × List MemPlace)), fitF P (fitB P n) l o τ = true → xs.length = l.length → cs.length = o + τ.width →
      (∀ (i : Nat) (f : Field), l[i]? = some f → DataW.trod enc P W 0 spare held m f.type ((cs.drop f.offset).take (P.cellsOf f.type)) = xs[i]?) →
      ∃ x : Den τ, DRep W (fun q => q < W.heap.size) τ x (cs.drop o) ∧ ∀ y, (undat τ).2 (xs.map (·.1)) = some y → x = y
  | [], o, τ, xs, hf, hx, hl, _ => by
    cases τ <;> simp [fitF] at hf
    refine ⟨(), ?_, fun _ _ => rfl⟩
    show cs.drop o = []
    apply List.drop_eq_nil_of_le
    simp [Shape.width] at hl
    omega
  | f :: fs, o, τ, xs, hf, hx, hl, h => by
    cases τ with
    | pair a b =>
      simp only [fitF, Bool.and_eq_true, beq_iff_eq] at hf
      obtain ⟨⟨⟨ho, hc⟩, hg⟩, hr⟩ := hf
      cases xs with
      | nil => simp at hx
      | cons x0 xs =>
        have h0 := h 0 f rfl
        rw [ho, hc] at h0
        simp only [List.getElem?_cons_zero] at h0
        obtain ⟨xa, ha, hua⟩ := ih f.type a _ x0.1 x0.2 hg h0
        simp only [Shape.width] at hl
        obtain ⟨xb, hb, hub⟩ := fitF_ok ih fs (o + a.width) b xs hr (by simpa using hx) (by rw [hl]; omega) fun i g hi => by
          have := h (i + 1) g (by simpa using hi)
          simpa using this
        refine ⟨(xa, xb), ⟨(cs.drop o).take a.width, cs.drop (o + a.width), ?_, ha, hb⟩, fun y hy => ?_⟩
        · rw [← List.drop_drop, List.take_append_drop]
        · simp only [undat, List.map_cons] at hy
          split at hy
          · rename_i e1 e2
            have := hua _ e1; have := hub _ e2
            subst_vars
            exact Option.some.inj hy
          · cases hy
    | _ => simp [fitF] at hf
theorem fit_ok : ∀ (n : Nat) (m : Nat) (t : TypeId) (τ : Shape) (cs : List Value) (d : DataW H) (p : List MemPlace), fitB P n t τ = true → DataW.trod enc P W 0 spare held m t cs = some (d, p) →
    ∃ x : Den τ, DRep W (fun q => q < W.heap.size) τ x cs ∧ ∀ y, (undat τ).1 d = some y → x = y
  | 0, _, _, _, _, _, _, h, _ => by simp [fitB] at h
  | n + 1, m, t, τ, cs, d, p, h, ht => by
    unfold fitB at h
    split at h
    · rename_i k hk
      cases τ with
      | int k' =>
        simp only [decide_eq_true_eq] at h
        subst h
        obtain ⟨v, hv, hx, hw⟩ := DataW.trod_int hk ht
        simp only [Prod.mk.injEq] at hx
        refine ⟨v, ⟨hv, wf_int hw⟩, fun y hy => ?_⟩
        rw [hx.1] at hy
        simp only [undat, if_true] at hy
        exact Option.some.inj hy
      | _ => cases h
    · rename_i hk
      cases τ with
      | bool =>
        obtain ⟨v, hv, hx⟩ := DataW.trod_bool hk ht
        simp only [Prod.mk.injEq] at hx
        refine ⟨v, hv, fun y hy => ?_⟩
        rw [hx.1] at hy
        simp only [undat] at hy
        exact Option.some.inj hy
      | _ => cases h
    · rename_i e hk
      cases τ with
      | slice σ =>
        simp only [Bool.and_eq_true, beq_iff_eq, decide_eq_true_eq] at h
        obtain ⟨⟨hc, hpos⟩, hf⟩ := h
        rcases DataW.trod_slice hk ht with ⟨hcs, hx⟩ | ⟨a, len, cap, elems, rest, m', rfl, hcs, hx, hb, hlc, hcap, hlen, hel, _⟩
        · exact ⟨[], ⟨none, 0, hcs, Nat.le_refl _, by decide, fun h => absurd rfl h⟩, fun y hy => by simp [undat] at hy⟩
        · have each : ∀ i, i < len → ∃ x : Den σ, ∃ ds, W.cells? 0 (a.add (i * P.cellsOf e)) (P.cellsOf e) = some ds ∧ DRep W (fun q => q < W.heap.size) σ x ds := fun i hi => by
            have := hel i hi
            rw [List.getElem?_eq_getElem (by omega), Option.bind_eq_some_iff] at this
            obtain ⟨ds, h1, h2⟩ := this
            obtain ⟨x, hx, _⟩ := fit_ok n m' e σ ds (elems[i]'(by omega)).1 (elems[i]'(by omega)).2 hf h2
            exact ⟨x, ds, h1, hx⟩
          obtain ⟨xs, hxl, hxs⟩ := choose_list len each
          refine ⟨xs, ⟨some a, cap, by rw [hxl]; exact hcs, by omega, by unfold lim; unfold maxLen at hcap; omega, fun hne => ?_⟩, fun y hy => by simp [undat] at hy⟩
          have h0 : 0 < xs.length := List.length_pos_iff.2 hne
          obtain ⟨ds0, hd0, _⟩ := hxs 0 xs[0] (List.getElem?_eq_getElem h0)
          obtain ⟨_, hl0, hc0⟩ := World.cells?_some hd0
          have hz : a.add (0 * P.cellsOf e) = a := by simp [Addr.add]
          have hz' : a.add 0 = a := by simp [Addr.add]
          rw [hz] at hc0
          have hc00 := hc0 0 (by omega)
          rw [hz', List.getElem?_eq_getElem (by omega)] at hc00
          unfold World.cell? at hc00
          split at hc00
          · rename_i c T fz hheap
            split at hc00
            · cases hc00
            · rename_i hspot
              have hs : a.spot = none := by simpa using hspot
              have hadd : ∀ q, a.add q = ⟨a.block, a.off + q, none⟩ := fun q => by
                unfold Addr.add
                split
                · subst_vars; cases a; simp at hs; simp [hs]
                · rfl
              have ha : a = ⟨a.block, a.off, none⟩ := by cases a; simp at hs; simp [hs]
              refine ⟨a.block, a.off, c, T, fz, by rw [← ha], ?_, hheap, fun i x hi => ?_⟩
              · exact (Array.getElem?_eq_some_iff.1 hheap).1
              · obtain ⟨ds, hd, hr⟩ := hxs i x hi
                refine ⟨ds, hr, fun j v hj => ?_⟩
                obtain ⟨_, hl, hcj⟩ := World.cells?_some hd
                have hjl : j < P.cellsOf e := by rw [← hl]; exact (List.getElem?_eq_some_iff.1 hj).1
                have := hcj j hjl
                rw [hadd, hj] at this
                have hadd2 : (⟨a.block, a.off + i * P.cellsOf e, none⟩ : Addr).add j = ⟨a.block, a.off + i * P.cellsOf e + j, none⟩ := by
                  unfold Addr.add
                  split
                  · subst_vars; rfl
                  · rfl
                rw [hadd2] at this
                unfold World.cell? at this
                simp only [hheap] at this
                rw [hc] at this
                exact this
          · cases hc00
      | _ => cases h
    · rename_i fs hk
      simp only [Bool.and_eq_true, beq_iff_eq] at h
      obtain ⟨hc, hf⟩ := h
      obtain ⟨xs, m', rfl, hx, hl, hxl, hel⟩ := DataW.trod_struct hk ht
      simp only [Prod.mk.injEq] at hx
      obtain ⟨x, h1, h2⟩ := fitF_ok (fun t τ cs d p => fit_ok n m' t τ cs d p) fs.toList 0 τ xs hf (by simpa using hxl) (by rw [hl, hc]; omega) fun i f hi => hel i f (by simpa using hi)
      refine ⟨x, by simpa using h1, fun y hy => h2 y ?_⟩
      rw [hx.1] at hy
      cases τ with
      | pair a b => exact hy
      | unit =>
        simp only [undat] at hy ⊢
        split at hy
        · rename_i e; simp only [DataW.agg.injEq] at e; rw [e]
        · cases hy
      | _ => simp [undat] at hy
    · cases h
end
end Vx
namespace Vx
open Go Go.RowKit Go.ChangeShapes Go.WideShapes
def isStruct (P : Program) (t : TypeId) : Bool := match P.underlying t with
  | some (.struct _) => true
  | _ => false
def fitS (P : Program) (n : Nat) : List TypeId → Sig → Bool
  | [], [] => true
  | t :: ts, (a, τ) :: r => fitB P n t τ && (a == isStruct P t) && fitS P n ts r
  | _, _ => false
section
variable {H : Type} {enc : TypeId × Value → H} {P : Program} {W : World}
theorem cells_one {n : Nat} {t : TypeId} {τ : Shape} {r : Reach} {b0 : Nat} {v : Value} (hf : fitB P n t τ = true) (hs : isStruct P t = false) (hv : Value.okWide P W r b0 t v) : v.cells.toList = [v] := by
  cases n with
  | zero => simp [fitB] at hf
  | succ n =>
    unfold fitB at hf
    split at hf
    · rename_i k hk; obtain ⟨_, rfl⟩ := okWide_int hk hv; rfl
    · rename_i hk; obtain ⟨_, rfl⟩ := okWide_bool hk hv; rfl
    · rename_i e hk; obtain ⟨_, _, _, rfl⟩ := okWide_slice hk hv; rfl
    · rename_i fs hk; simp [isStruct, hk] at hs
    · cases hf
theorem erep_plain {S : Nat → Prop} {a : Bool} {τ : Shape} {x : Den τ} {y : Value} (ho : ownE a τ = false) (h : PRep W S a τ x y) : ERep W S a τ x y [] := by
  cases τ with
  | slice e =>
    cases a with
    | true => cases ho
    | false => exact ⟨rfl, h⟩
  | _ => exact ⟨rfl, h⟩
theorem args_ok {n : Nat} {sp : Nat → Bool} {held : Bool} {b0 : Nat} : ∀ (ts : List TypeId) (I : Sig) (vs : List Value) (ds : List (DataW H)) (ps : List MemPlace), fitS P n ts I = true →
    (∀ (j : Nat) (t : TypeId) (v : Value), ts[j]? = some t → vs[j]? = some v → Value.okWide P W .any b0 t v) → DataW.TrodAll enc P W 0 sp held ts vs ds ps → ∃ x : DenS I, SRep W (fun q => q < W.heap.size) I x vs [] ∧ wfS I x ∧ ds.length = ts.length
  | [], [], vs, ds, ps, _, _, h => by
    cases vs <;> cases ds <;> simp [DataW.TrodAll] at h
    exact ⟨(), ⟨rfl, rfl⟩, trivial, rfl⟩
  | [], _ :: _, _, _, _, hf, _, _ => by simp [fitS] at hf
  | _ :: _, [], _, _, _, hf, _, _ => by simp [fitS] at hf
  | t :: ts, (a, τ) :: I, vs, ds, ps, hf, hv, h => by
    cases vs with
    | nil => simp [DataW.TrodAll] at h
    | cons v vs =>
      cases ds with
      | nil => simp [DataW.TrodAll] at h
      | cons d ds =>
        obtain ⟨p, q, ⟨m, hp⟩, hq, _⟩ := h
        simp only [fitS, Bool.and_eq_true, beq_iff_eq] at hf
        obtain ⟨⟨h1, h2⟩, h3⟩ := hf
        obtain ⟨x, hx, hw, hl⟩ := args_ok ts I vs ds q h3 (fun j t v ht hv' => hv (j + 1) t v (by simpa using ht) (by simpa using hv')) hq
        obtain ⟨y, hy, _⟩ := fit_ok n m t τ _ d p h1 hp
        have hok := hv 0 t v rfl rfl
        refine ⟨(y, x), ⟨v, vs, [], [], rfl, rfl, erep_plain ?_ ?_, hx⟩, ⟨hy.wfD, hw⟩, by simp [hl]⟩
        · cases τ with
          | slice σ =>
            show a = false
            rw [h2]
            cases n with
            | zero => simp [fitB] at h1
            | succ n =>
              unfold fitB at h1
              unfold isStruct
              split at h1 <;> rename_i hk <;> first | (rw [hk]; done) | (simp only [hk]; done) | (simp [fitF] at h1; done) | skip
          | _ => rfl
        cases a with
        | true =>
          have hs : isStruct P t = true := h2.symm
          unfold isStruct at hs
          split at hs
          · rename_i fs hk
            unfold Value.okWide at hok
            rw [hk] at hok
            obtain ⟨cs, rfl, _⟩ := hok
            exact ⟨cs.toList, by simp, hy⟩
          · cases hs
        | false =>
          have hs : isStruct P t = false := h2.symm
          rw [cells_one h1 hs hok] at hy
          exact hy
theorem trodAll_below (hl : laidOutB P = true) {W' : World} (hb : Below W.heap.size W W') : ∀ (ts : List TypeId) (vs : List Value) (ds : List (DataW H)) (ps : List MemPlace), (ts.all fun t => P.readableRec t && decide (t < P.types.size)) = true →
    DataW.TrodAll enc P W 0 (fun _ => true) true ts vs ds ps → (∀ x ∈ ps, x.block < W.heap.size) → DataW.TrodAll enc P W' 0 (fun b => decide (b < W.heap.size)) true ts vs ds ps
  | [], vs, ds, ps, _, h, _ => by
    cases vs <;> cases ds <;> simp [DataW.TrodAll] at h ⊢
    exact h
  | t :: ts, vs, ds, ps, hr, h, hlt => by
    cases vs with
    | nil => simp [DataW.TrodAll] at h
    | cons v vs =>
      cases ds with
      | nil => simp [DataW.TrodAll] at h
      | cons d ds =>
        obtain ⟨p, q, hp, hq, rfl⟩ := h
        simp only [List.all_cons, Bool.and_eq_true, decide_eq_true_eq] at hr
        exact ⟨p, q, Below.trod hl hr.1.1 hr.1.2 hp hb (fun x hx => hlt x (List.mem_append.2 (.inl hx))),
          trodAll_below hl hb ts vs ds q hr.2 hq (fun x hx => hlt x (List.mem_append.2 (.inr hx))), rfl⟩
/-- a table that is laid -/
theorem glob_of {n : String} {g : Nat} {t e : TypeId} {m k : Nat} {τ : Shape} {ds : List (DataW Unit)} {xs : List (Den τ)} {r : List (String × DataW Unit)} {ps : List MemPlace}
    (hL : DataW.LaidVars P W ((n, .agg ds) :: r) ps) (hg : P.globalNamed n = some g) (ht : (P.globals[g]?).map (·.type) = some t) (hu : P.underlying t = some (.array m e)) (hc : P.cellsOf e = τ.width) (hf : fitB P k e τ = true)
    (hx : ds.map (undat τ).1 = xs.map some) :
    (g < W.heap.size ∧ ∃ vs T fz, W.heap[g]? = some (.cells vs T fz) ∧ Rows W (fun q => q < W.heap.size) τ vs 0 xs) ∧ ∃ ps', DataW.LaidVars P W r ps' := by
  obtain ⟨g', t', cs, fuel, p, q, h1, h2, h3, h4, h5, _⟩ := hL
  rw [hg] at h1; cases h1
  rw [ht] at h2; cases h2
  refine ⟨?_, q, h5⟩
  unfold World.var? at h3
  rw [hg] at h3
  simp only [Option.bind_some] at h3
  split at h3
  · rename_i c T fz hh
    cases h3
    refine ⟨(Array.getElem?_eq_some_iff.1 hh).1, cs, T, fz, hh, ?_⟩
    obtain ⟨ys, m', rfl, hy, hl, hyl, hel⟩ := DataW.trod_array hu h4
    simp only [Prod.mk.injEq, DataW.agg.injEq] at hy
    intro i x hi
    have hxl : xs.length = m := by
      have := congrArg List.length hx
      simp [hy.1, hyl] at this
      omega
    have him : i < m := by rw [← hxl]; exact (List.getElem?_eq_some_iff.1 hi).1
    have he := hel i him
    have hyi : ys[i]? = some (ys[i]'(by omega)) := List.getElem?_eq_getElem (by omega)
    rw [hyi, hc] at he
    obtain ⟨x', h6, h7⟩ := fit_ok k m' e τ _ _ _ hf he
    have hd : (undat τ).1 (ys[i]'(by omega)).1 = some x := by
      have := congrArg (·[i]?) hx
      simp only [List.getElem?_map, hy.1, hyi, hi, Option.map_some] at this
      exact Option.some.inj this
    have := h7 x hd
    subst this
    refine ⟨_, h6, fun j v hj => ?_⟩
    rw [List.getElem?_take] at hj
    split at hj
    · rw [List.getElem?_drop] at hj
      simpa using hj
    · cases hj
  · cases h3
theorem returns_true {G : List (Nat × Sigma fun τ => List (Den τ))} {f : FuncId} {I : Sig} {T : DenS I → Option (DenS [(false, .bool)])} {d : DenS [(false, .bool)]} (hS : Sound P G f (sumOf I [(false, .bool)] T d)) {x : DenS I} (hT : T x = some (true, ())) (hcal : ∃ fn, P.funcs[f]? = some fn ∧ fn.body.isNone = false ∧ (fn.name == "runtime.NumGoroutine") = false) {W : World} {args : Array Value}
    (hG : GlobsOk G W fun q => q < W.heap.size) (ha : SRep W (fun q => q < W.heap.size) I x args.toList []) : Calls P f args W fun e W' => e = .returned (.bool true) ∧ Below W.heap.size W W' := by
  have := hS.calls x (by show (T x).isSome = true; rw [hT]; rfl) W (fun q => q < W.heap.size) args.toList [] (fun q h => h) hG ha List.nodup_nil (fun r h => by simp at h)
  rw [Array.toArray_toList] at this
  have this := this.resolve_right (fun ⟨v, hv, _⟩ => by rw [run_callFunc hcal] at hv; cases hv)
  refine this.2.mono fun e W' ⟨zs, rs', he, hb, _, _, hz⟩ => ⟨?_, ⟨hb.os, hb.tape, hb.output, hb.size, fun k hk => hb.block k hk (fun h => by simp at h)⟩⟩
  obtain ⟨y, ys, r1, r2, rfl, _, ⟨_, h1⟩, rfl, _⟩ := hz
  have h2 : [y] = [Value.bool ((T x).getD d).1] := h1
  rw [hT] at h2
  cases h2
  exact he
/-- what a law's row asks -/
theorem law_post {G : List (Nat × Sigma fun τ => List (Den τ))} {f : FuncId} {fn : Func} {I : Sig} {T : DenS I → Option (DenS [(false, .bool)])} {d : DenS [(false, .bool)]} {s : ChangeSpec} {n : Nat} {tb : TypeId}
    (hS : Sound P G f (sumOf I [(false, .bool)] T d)) (hT : ∀ x, wfS I x → T x = some (true, ())) (hcal : ∃ fn, P.funcs[f]? = some fn ∧ fn.body.isNone = false ∧ (fn.name == "runtime.NumGoroutine") = false) (hlay : laidOutB P = true) (hfit : fitS P n fn.params.toList I = true)
    (hread : (fn.params.toList.all fun t => P.readableRec t && decide (t < P.types.size)) = true) (hres : fn.resultTypes = #[tb]) (hbool : P.underlying tb = some .bool) (hvars : s.vars = [])
    (hspec : ∀ ds : List (DataW H), ds.length = fn.params.toList.length → s.fn H ds = { results := [.lit (.bool true)], args := ds })
    {W : World} {base : Nat} {args : Array Value} {ds gs : List (DataW H)} {before : List MemPlace}
    (hval : ∀ (j : Nat) (t : TypeId) (v : Value), fn.params[j]? = some t → args[j]? = some v → Value.okWide P W .any base t v)
    (hW : DataW.Whole enc P fn.params.toList s.vars false W args.toList ds gs before) (hG : GlobsOk G W fun q => q < W.heap.size) :
    Calls P f args W fun e W' => ∃ v, e = .returned v ∧ ChangeSpec.post enc P fn s false true false false W args v W' := by
  have hW' := hW
  obtain ⟨p, q, hA, hV, rfl, _, _⟩ := hW
  rw [hvars] at hV
  obtain ⟨rfl, rfl⟩ := trodVars_none hV
  obtain ⟨x, hx, hw, hlen⟩ := args_ok (b0 := base) fn.params.toList I args.toList ds p hfit (fun j t v ht hv => hval j t v (by simpa using ht) (by simpa using hv)) hA
  refine (returns_true hS (hT x hw) hcal hG hx).mono fun e W' ⟨he, hb⟩ => ⟨.bool true, he, ds, [], p ++ [], [], p, [], hW', ?_, ?_, ?_, hb.frame _, fun h => by cases h⟩
  · rw [List.append_nil, hspec ds hlen, hres]
    exact trodAll_mk1 (shut_bool hbool true)
  · rw [List.append_nil, hspec ds hlen]
    exact trodAll_below hlay hb _ _ _ _ hread hA fun y hy => by simpa using hW'.lt y (by simpa using hy)
  · rw [List.append_nil, hspec ds hlen, hvars]
    rfl
end
theorem globs_nil {W : World} {S : Nat → Prop} : GlobsOk [] W S := fun _ _ _ h => by simp [findGlob] at h
theorem globs_cons {W : World} {S : Nat → Prop} {g : Nat} {τ : Shape} {xs : List (Den τ)} {G : List (Nat × Sigma fun τ => List (Den τ))} (h : S g ∧ ∃ vs T fz, W.heap[g]? = some (.cells vs T fz) ∧ Rows W S τ vs 0 xs) (r : GlobsOk G W S) :
    GlobsOk ((g, ⟨τ, xs⟩) :: G) W S := fun g' τ' xs' hf => by
  simp only [findGlob] at hf
  cases hb : Nat.beq g g' with
  | true =>
    have := Nat.eq_of_beq_eq_true hb
    subst this
    rw [hb] at hf
    simp only [cond_true, Option.some.injEq] at hf
    cases hf
    exact h
  | false =>
    rw [hb] at hf
    exact r g' τ' xs' hf
end Vx
