/- Part 7 of the proof. What is proved: symbolic execution of the functions, proved sound; what each function of the program computes, and that every run ends with it; what these functions compute, in plain numbers. Conditions: each theorem bears its own. -/
import Derived.Test.YtblmecpfokfjpaaDoorVxG6
import Ieee.Arith
import Derived.ProofKit
import Derived.LaidMore
import Derived.OpenShut
import Derived.Stop.Joined
import GoSem.ClaimJoined
set_option linter.all false
set_option exponentiation.threshold 1000000
namespace VL
open Go Vx
def qm (f : Int) : Int := 1 - (fX f : Int) - (fP f : Int) + 1
def cutJ (m : Int) (neg : Bool) (n j : Nat) : Nat :=
  if clsR (n % 2 ^ j) j ≠ 0 ∧ furM m neg (decide (n / 2 ^ j % 2 = 1)) (clsR (n % 2 ^ j) j) = true then n / 2 ^ j + 1 else n / 2 ^ j
/-- a number at the least exponent, rounded, as if there were no end -/
def muM (f m : Int) (neg : Bool) (n : Nat) : Nat := if n < 2 ^ fP f then n else (blen n - fP f) * 2 ^ (fP f - 1) + cutJ m neg n (blen n - fP f)
def limM (f m : Int) (neg : Bool) : Nat := if upw m neg then infF f else infF f - 1
theorem cutJ_bound (m : Int) (neg : Bool) (n j : Nat) : n / 2 ^ j ≤ cutJ m neg n j ∧ cutJ m neg n j ≤ n / 2 ^ j + 1 := by
  unfold cutJ; split <;> omega
theorem quo_bound {f : Int} (hf : Fm f) {n : Nat} (h : ¬ n < 2 ^ fP f) : 1 ≤ blen n - fP f ∧ 2 ^ (fP f - 1) ≤ n / 2 ^ (blen n - fP f) ∧ n / 2 ^ (blen n - fP f) < 2 ^ fP f := by
  have hP := fP_ge hf
  have hb := blen_ge (n := n) (k := fP f) (by omega)
  obtain ⟨j, hj⟩ : ∃ j, blen n = fP f + j := ⟨blen n - fP f, by omega⟩
  have h1 := blen_lt n
  have h2 := blen_le (n := n) (by have := Nat.two_pow_pos (fP f); omega)
  rw [hj] at h1 h2 ⊢
  rw [Nat.add_sub_cancel_left]
  refine ⟨by omega, ?_, ?_⟩
  · rw [Nat.le_div_iff_mul_le (Nat.two_pow_pos _), ← Nat.pow_add]
    refine Nat.le_trans (Nat.pow_le_pow_right (by decide) ?_) h2
    omega
  · rw [Nat.div_lt_iff_lt_mul (Nat.two_pow_pos _), ← Nat.pow_add]
    exact h1
theorem two_P {f : Int} (hf : Fm f) : 2 ^ fP f = 2 * 2 ^ (fP f - 1) := by
  have hP := fP_ge hf
  rw [← Nat.pow_succ', Nat.succ_eq_add_one, Nat.sub_add_cancel (by omega)]
theorem rndM_mu {f : Int} (hf : Fm f) (m : Int) (neg : Bool) {n : Nat} (h0 : n ≠ 0) :
    rndM f m neg n (qm f) = if infF f ≤ muM f m neg n then (limM f m neg, 20) else (muM f m neg n, if n < 2 ^ fP f then 0 else if clsR (n % 2 ^ (blen n - fP f)) (blen n - fP f) = 0 then 0 else 16) := by
  have hP := fP_ge hf
  have hX := fX_ge hf
  have h2p := two_P hf
  have hpp := Nat.two_pow_pos (fP f - 1)
  have hinf := inf_ge hf
  have hb1 := blen_pos h0
  have htop : topE n (qm f) = qm f + (blen n : Int) - 1 := rfl
  have hqm : qm f = 1 - (fX f : Int) - (fP f : Int) + 1 := rfl
  unfold rndM
  by_cases h : n < 2 ^ fP f
  · have hb := blen_bound h
    have hlow : lowE f (topE n (qm f)) = qm f := by unfold lowE; split <;> omega
    have hmu : muM f m neg n = n := by unfold muM; rw [if_pos h]
    have hcut : cutR n (qm f) (qm f) false = 0 := by rw [cutR_f, rstE_lo (Int.le_refl _)]
    have hcn : cutN m neg n (qm f) (qm f) false = n := by
      unfold cutN
      rw [if_neg (fun hh => hh.1 hcut), quoE_lo (Int.le_refl _), Int.sub_self]
      simp
    have hlt : 2 * 2 ^ (fP f - 1) ≤ (2 * fX f + 1) * 2 ^ (fP f - 1) := Nat.mul_le_mul_right _ (by omega)
    rw [if_neg (show ¬ topE n (qm f) > fX f by omega), hlow, hmu, if_neg (show ¬ infF f ≤ n by omega)]
    dsimp only
    rw [hcn, if_neg (show ¬ qm f + (blen n : Int) - 1 > fX f by omega), hcut, if_pos rfl, if_pos h, ← hqm, Int.sub_self]
    simp
  · obtain ⟨hj1, hq1, hq2⟩ := quo_bound hf h
    have hblen : (blen n : Int) = (fP f : Int) + ((blen n - fP f : Nat) : Int) := by omega
    obtain ⟨hc1, hc2⟩ := cutJ_bound m neg n (blen n - fP f)
    have hmu : muM f m neg n = (blen n - fP f) * 2 ^ (fP f - 1) + cutJ m neg n (blen n - fP f) := by unfold muM; rw [if_neg h]
    rw [hmu, if_neg h]
    have hlow : lowE f (topE n (qm f)) = qm f + ((blen n - fP f : Nat) : Int) := by unfold lowE; rw [if_neg (by omega)]; omega
    have htiny : ¬ isTiny f m neg n (qm f) false := fun hh => by have := hh.1; omega
    have hcr : cutR n (qm f) (qm f + ((blen n - fP f : Nat) : Int)) false = clsR (n % 2 ^ (blen n - fP f)) (blen n - fP f) := by
      rw [cutR_f, rstE_hi (by omega), show (qm f + ((blen n - fP f : Nat) : Int) - qm f).toNat = blen n - fP f by omega]
    have hcn : cutN m neg n (qm f) (qm f + ((blen n - fP f : Nat) : Int)) false = cutJ m neg n (blen n - fP f) := by
      unfold cutN cutJ
      rw [hcr, quoE_hi (by omega), show (qm f + ((blen n - fP f : Nat) : Int) - qm f).toNat = blen n - fP f by omega]
    rw [hlow]
    dsimp only
    rw [hcn, hcr, show (qm f + ((blen n - fP f : Nat) : Int) - (1 - (fX f : Int) - (fP f : Int) + 1)).toNat = blen n - fP f by omega]
    generalize blen n - fP f = j at *
    generalize cutJ m neg n j = u at *
    generalize n / 2 ^ j = Q at *
    by_cases ht : topE n (qm f) > fX f
    · have hj2 : 2 * fX f + 1 ≤ j + 1 := by omega
      have := Nat.mul_le_mul_right (2 ^ (fP f - 1)) hj2
      rw [Nat.add_mul j, Nat.one_mul] at this
      rw [if_pos ht, if_pos (show infF f ≤ j * 2 ^ (fP f - 1) + u by omega)]
      rfl
    · rw [if_neg ht]
      rcases Nat.lt_or_ge u (2 ^ fP f) with hu | hu
      · have hbu := blen_bound hu
        have hj2 : j + 2 ≤ 2 * fX f + 1 := by omega
        have := Nat.mul_le_mul_right (2 ^ (fP f - 1)) hj2
        rw [Nat.add_mul] at this
        rw [if_neg (show ¬ qm f + (j : Int) + (blen u : Int) - 1 > fX f by omega), if_neg (show ¬ infF f ≤ j * 2 ^ (fP f - 1) + u by omega), if_neg htiny]
      · have hbu := blen_ge hu
        have hbu2 := blen_bound (n := u) (k := fP f + 1) (by rw [Nat.pow_succ]; omega)
        by_cases hj2 : j + 3 ≤ 2 * fX f + 1
        · have := Nat.mul_le_mul_right (2 ^ (fP f - 1)) hj2
          rw [Nat.add_mul] at this
          rw [if_neg (show ¬ qm f + (j : Int) + (blen u : Int) - 1 > fX f by omega), if_neg (show ¬ infF f ≤ j * 2 ^ (fP f - 1) + u by omega), if_neg htiny]
        · have hj3 : 2 * fX f + 1 ≤ j + 2 := by omega
          have := Nat.mul_le_mul_right (2 ^ (fP f - 1)) hj3
          rw [Nat.add_mul j] at this
          rw [if_pos (show qm f + (j : Int) + (blen u : Int) - 1 > fX f by omega), if_pos (show infF f ≤ j * 2 ^ (fP f - 1) + u by omega)]
          rfl
theorem blen_mono {n k : Nat} (h : n ≤ k) : blen n ≤ blen k := blen_bound (Nat.lt_of_le_of_lt h (blen_lt k))
theorem cls_mono {r r' j : Nat} (h : r ≤ r') : clsR r j ≤ clsR r' j := by
  unfold clsR
  generalize 2 ^ (j - 1) = H
  by_cases h0 : r = 0
  · rw [if_pos h0]; exact Nat.zero_le _
  rw [if_neg h0, if_neg (show ¬ r' = 0 by omega)]
  by_cases h1 : r' < H
  · rw [if_pos (show r < H by omega), if_pos h1]; exact Nat.le_refl _
  rw [if_neg h1]
  by_cases h2 : r' = H
  · rw [if_pos h2]
    split
    · decide
    · rw [if_pos (by omega)]; exact Nat.le_refl _
  · rw [if_neg h2]
    split
    · decide
    · split <;> decide
theorem clsR_le (r j : Nat) : clsR r j ≤ 3 := by
  unfold clsR
  split
  · decide
  · split
    · decide
    · split <;> decide
theorem up_mono {m : Int} (hm : 0 ≤ m ∧ m ≤ 5) (neg odd : Bool) {c c' : Nat} (h : c ≤ c') (hc' : c' ≤ 3) (hu : c ≠ 0 ∧ furM m neg odd c = true) : c' ≠ 0 ∧ furM m neg odd c' = true := by
  obtain ⟨h0, h1⟩ := hu
  refine ⟨by omega, ?_⟩
  rcases (show c = 1 ∨ c = 2 ∨ c = 3 by omega) with rfl | rfl | rfl <;> rcases (show c' = 1 ∨ c' = 2 ∨ c' = 3 by omega) with rfl | rfl | rfl <;> rcases mode_cases hm with rfl | rfl | rfl | rfl | rfl | rfl <;> cases neg <;> cases odd <;> first | rfl | (exfalso; omega) | (revert h1; decide)
theorem cutJ_mono {m : Int} (hm : 0 ≤ m ∧ m ≤ 5) (neg : Bool) {n k j : Nat} (h : n ≤ k) : cutJ m neg n j ≤ cutJ m neg k j := by
  have hq : n / 2 ^ j ≤ k / 2 ^ j := Nat.div_le_div_right h
  have h1 := cutJ_bound m neg n j
  have h2 := cutJ_bound m neg k j
  rcases Nat.lt_or_ge (n / 2 ^ j) (k / 2 ^ j) with hlt | hge
  · omega
  · have he : n / 2 ^ j = k / 2 ^ j := by omega
    have hr : n % 2 ^ j ≤ k % 2 ^ j := by
      have a1 := Nat.div_add_mod n (2 ^ j)
      have a2 := Nat.div_add_mod k (2 ^ j)
      rw [he] at a1
      omega
    unfold cutJ
    rw [he]
    have hu := up_mono hm neg (decide (k / 2 ^ j % 2 = 1)) (cls_mono (j := j) hr) (clsR_le _ _)
    split
    · rename_i hh
      rw [if_pos (hu hh)]
      omega
    · split <;> omega
theorem mu_mono {f m : Int} (hf : Fm f) (hm : 0 ≤ m ∧ m ≤ 5) (neg : Bool) {n k : Nat} (h : n ≤ k) : muM f m neg n ≤ muM f m neg k := by
  have h2p := two_P hf
  unfold muM
  by_cases h1 : n < 2 ^ fP f
  · by_cases h2 : k < 2 ^ fP f
    · rw [if_pos h1, if_pos h2]; exact h
    · obtain ⟨hj1, hq1, _⟩ := quo_bound hf h2
      have hc := (cutJ_bound m neg k (blen k - fP f)).1
      have := Nat.mul_le_mul_right (2 ^ (fP f - 1)) hj1
      rw [if_pos h1, if_neg h2]; omega
  · have h2 : ¬ k < 2 ^ fP f := by omega
    obtain ⟨hj1, hq1, hq2⟩ := quo_bound hf h1
    obtain ⟨hj1', hq1', hq2'⟩ := quo_bound hf h2
    have hc := cutJ_bound m neg n (blen n - fP f)
    have hc' := cutJ_bound m neg k (blen k - fP f)
    have hb := blen_mono h
    rw [if_neg h1, if_neg h2]
    rcases Nat.lt_or_ge (blen n - fP f) (blen k - fP f) with hlt | hge
    · have := Nat.mul_le_mul_right (2 ^ (fP f - 1)) hlt
      rw [Nat.succ_eq_add_one, Nat.add_mul] at this
      omega
    · have he : blen n - fP f = blen k - fP f := by omega
      rw [he]
      have := cutJ_mono hm neg (j := blen k - fP f) h
      omega
/-- the place of a rounded whole number of least steps -/
def magI (f m : Int) (neg : Bool) (n : Nat) : Nat := if n = 0 then 0 else (rndM f m neg n (qm f)).1
def plcI (f m : Int) (S : Int) : Int := if S < 0 then -(magI f m true S.natAbs : Int) else (magI f m false S.natAbs : Int)
theorem mag_mono {f m : Int} (hf : Fm f) (hm : 0 ≤ m ∧ m ≤ 5) (neg : Bool) {n k : Nat} (h : n ≤ k) : magI f m neg n ≤ magI f m neg k := by
  unfold magI
  by_cases h0 : n = 0
  · rw [if_pos h0]; exact Nat.zero_le _
  · rw [if_neg h0, if_neg (by omega), rndM_mu hf m neg h0, rndM_mu hf m neg (by omega)]
    have hmm := mu_mono hf hm neg h
    have hp := infF_pos hf
    unfold limM
    by_cases h1 : infF f ≤ muM f m neg n
    · rw [if_pos h1, if_pos (show infF f ≤ muM f m neg k by omega)]
      exact Nat.le_refl _
    · rw [if_neg h1]
      by_cases h2 : infF f ≤ muM f m neg k
      · rw [if_pos h2]
        dsimp only
        split <;> omega
      · rw [if_neg h2]
        exact hmm
theorem plc_mono {f m : Int} (hf : Fm f) (hm : 0 ≤ m ∧ m ≤ 5) {S T : Int} (h : S ≤ T) : plcI f m S ≤ plcI f m T := by
  unfold plcI
  by_cases hS : S < 0
  · rw [if_pos hS]
    by_cases hT : T < 0
    · rw [if_pos hT]
      have := mag_mono hf hm true (n := T.natAbs) (k := S.natAbs) (by omega)
      omega
    · rw [if_neg hT]; omega
  · rw [if_neg hS, if_neg (by omega)]
    have := mag_mono hf hm false (n := S.natAbs) (k := T.natAbs) (by omega)
    omega
end VL
namespace VL
open Go Vx
theorem place_mant {f : Int} (hf : Fm f) {a : Nat} (h : place f a ≠ 0) : mant f a ≠ 0 := fun hm => by
  have habs : absF f a ≠ 0 := fun h0 => h (by unfold place; rw [h0]; cases sF f a <;> rfl)
  have hpp := Nat.two_pow_pos (fP f - 1)
  unfold mant at hm
  split at hm
  · rename_i he
    exact habs ((zero_iff hf a).2 ⟨he, hm⟩)
  · omega
end VL
namespace VL
open Go Vx
/-- a number as whole least steps -/
def vI (f : Int) (neg : Bool) (X : Nat) (e : Int) : Int := bif neg then -((X * 2 ^ (e - qm f).toNat : Nat) : Int) else ((X * 2 ^ (e - qm f).toNat : Nat) : Int)
theorem rnd_qm {f : Int} (hf : Fm f) (m : Int) (neg : Bool) {N : Nat} (hN : N ≠ 0) {e : Int} (he : qm f ≤ e) :
    rndN f m neg N e false = (mkF f neg (rndM f m neg (N * 2 ^ (e - qm f).toNat) (qm f)).1, (rndM f m neg (N * 2 ^ (e - qm f).toNat) (qm f)).2) := by
  have h := rnd_scale (f := f) (m := m) (neg := neg) hf hN (e - qm f).toNat (qm f)
  rw [show qm f + ((e - qm f).toNat : Int) = e by omega] at h
  rw [← h, rnd_M hf]
end VL
namespace VL
open Go Vx
theorem xpn_ge (f : Int) (a : Nat) : qm f ≤ xpn f a := by
  unfold xpn qm
  split <;> omega
/-- six values, the first i of them filled -/
def sl (V : Nat → Int) (i : Nat) : List Int := [if 0 < i then V 0 else 0, if 1 < i then V 1 else 0, if 2 < i then V 2 else 0, if 3 < i then V 3 else 0, if 4 < i then V 4 else 0, if 5 < i then V 5 else 0]
end VL
namespace VL
open Go Vx
def vA (f : Int) (a : Nat) : Int := vI f (sF f a) (mant f a) (xpn f a)
theorem plc_zero (f m : Int) : plcI f m 0 = 0 := by
  unfold plcI magI
  rw [if_neg (by omega)]
  rfl
theorem abs_zero_mant {f : Int} (hf : Fm f) {a : Nat} (h : absF f a = 0) : mant f a = 0 := by
  have h0 := (zero_iff hf a).1 h
  unfold mant; rw [if_pos h0.1]; exact h0.2
theorem self_plc {f : Int} (hf : Fm f) {a : Nat} (ha : chk f a = 0) (fa : eF f a ≠ fullF f) : place f a = plcI f 0 (vA f a) := by
  by_cases h0 : mant f a = 0
  · have hv : vA f a = 0 := by
      unfold vA vI; rw [h0, Nat.zero_mul]; cases sF f a <;> rfl
    rw [hv, plc_zero]
    by_cases hp : place f a = 0
    · exact hp
    · exact absurd h0 (place_mant hf hp)
  · have hr := rnd_self (m := 0) hf ha fa h0
    rw [rnd_qm hf 0 (sF f a) h0 (xpn_ge f a)] at hr
    have h1 : mkF f (sF f a) (rndM f 0 (sF f a) (mant f a * 2 ^ (xpn f a - qm f).toNat) (qm f)).1 = a := congrArg Prod.fst hr
    have hn0 : mant f a * 2 ^ (xpn f a - qm f).toNat ≠ 0 := Nat.ne_of_gt (Nat.mul_pos (by omega) (Nat.two_pow_pos _))
    have hle := rndM_le hf 0 (sF f a) (mant f a * 2 ^ (xpn f a - qm f).toNat) (qm f)
    have h2 : place f a = place f (mkF f (sF f a) (rndM f 0 (sF f a) (mant f a * 2 ^ (xpn f a - qm f).toNat) (qm f)).1) := by rw [h1]
    rw [h2, mk_place _ (Nat.lt_of_le_of_lt hle (infF_lt hf))]
    unfold vA vI plcI magI
    generalize mant f a * 2 ^ (xpn f a - qm f).toNat = n at *
    cases sF f a
    · simp only [cond_false]
      rw [if_neg (show ¬ ((n : Int) < 0) by omega), Int.natAbs_natCast, if_neg hn0]
    · simp only [cond_true]
      rw [if_pos (show (-(n : Int) < 0) by omega), Int.natAbs_neg, Int.natAbs_natCast, if_neg hn0]
theorem place_abs (f : Int) (a : Nat) : (place f a).natAbs = absF f a := by
  unfold place; cases sF f a <;> simp
theorem same_val {f : Int} (hf : Fm f) {a b : Nat} (h : place f a = place f b) : vA f a = vA f b := by
  have habs : absF f a = absF f b := by rw [← place_abs, ← place_abs, h]
  by_cases h0 : absF f a = 0
  · have e1 := abs_zero_mant hf h0
    have e2 := abs_zero_mant hf (habs ▸ h0)
    unfold vA vI
    rw [e1, e2, Nat.zero_mul, Nat.zero_mul]
    cases sF f a <;> cases sF f b <;> rfl
  · have hs : sF f a = sF f b := by
      unfold place at h
      rw [habs] at h h0
      cases h1 : sF f a <;> cases h2 : sF f b <;> rw [h1, h2] at h <;> simp only [cond_true, cond_false] at h <;> first | rfl | omega
    have he : eF f a = eF f b := by rw [eF_abs hf, eF_abs hf, habs]
    have hm : mF f a = mF f b := by rw [mF_abs hf, mF_abs hf, habs]
    unfold vA mant xpn
    rw [hs, he, hm]
end VL
namespace VL
open Go Vx
/-- bounds that the additions keep -/
def Bd (f : Int) (n : Nat) (e : Int) : Prop := qm f ≤ e ∧ e ≤ 6000 ∧ n * 2 ^ (e - qm f).toNat < 2 ^ 5000
theorem Bd.lt {f : Int} {n : Nat} {e : Int} (h : Bd f n e) : n < 2 ^ 5000 := by
  have := Nat.le_mul_of_pos_right n (Nat.two_pow_pos (e - qm f).toNat)
  exact Nat.lt_of_le_of_lt this h.2.2
end VL
namespace VL
open Go Vx
/-- a fact that omega doesn't look into -/
structure Hid (p : Prop) : Prop where
  out : p
end VL
namespace VL
open Go Vx
theorem set_same {l : List Nat} {j v : Nat} (hj : j < l.length) (h : l.getD j 0 = v) : l.set j v = l := by
  rw [List.getD_eq_getElem?_getD, List.getElem?_eq_getElem hj, Option.getD_some] at h
  subst h
  exact List.set_getElem_self hj
end VL
namespace VL
open Go Vx
/-- the format of a kind of floats -/
def fk : FloatKind → Int
  | .f32 => 2
  | .f64 => 3
theorem fk_ok (k : FloatKind) : Fm (fk k) := by cases k <;> exact ⟨by decide, by decide⟩
theorem fk_sgn (k : FloatKind) : k.format.signWeight = 2 ^ (fW (fk k) - 1) := by cases k <;> rfl
theorem fk_bin (k : FloatKind) : k.format.binade = 2 ^ (fP (fk k) - 1) := by cases k <;> rfl
theorem fk_inf (k : FloatKind) : k.format.infRung = infF (fk k) := by cases k <;> rfl
theorem fk_low (k : FloatKind) : k.format.leastPlace = qm (fk k) := by cases k <;> rfl
theorem fk_frac (k : FloatKind) : k.format.fractionBits = fP (fk k) - 1 := by cases k <;> rfl
theorem abs_parts {f : Int} (hf : Fm f) (a : Nat) : absF f a % 2 ^ (fP f - 1) = mF f a ∧ absF f a / 2 ^ (fP f - 1) = eF f a := by
  rw [abs_eq hf, Nat.add_mul_mod_self_left, Nat.mod_eq_of_lt (mF_lt f a), Nat.add_mul_div_left _ _ (Nat.two_pow_pos _), Nat.div_eq_of_lt (mF_lt f a), Nat.zero_add]
  exact ⟨rfl, rfl⟩
/-- what a word stands for -/
theorem read_eq (k : FloatKind) {a : Nat} (h : chk (fk k) a = 0) :
    k.format.read a = if eF (fk k) a = fullF (fk k) then (if mF (fk k) a = 0 then .infinity (sF (fk k) a) else .nan (sF (fk k) a) (mF (fk k) a)) else .number (sF (fk k) a) (mant (fk k) a) (xpn (fk k) a) := by
  obtain ⟨hf, h0⟩ := chk_zero h
  have hneg : (a / k.format.signWeight % 2 == 1) = sF (fk k) a := by rw [fk_sgn]; exact sgn_eq h
  have hab : a % k.format.signWeight = absF (fk k) a := by rw [fk_sgn]; rfl
  obtain ⟨p1, p2⟩ := abs_parts hf a
  have he := abs_eq hf a
  have hm := mF_lt (fk k) a
  have hpp := Nat.two_pow_pos (fP (fk k) - 1)
  have hfull := full_pos hf
  have hel : eF (fk k) a ≤ fullF (fk k) := by
    have := Nat.mod_lt (a / 2 ^ (fP (fk k) - 1)) (Nat.two_pow_pos (fW (fk k) - fP (fk k)))
    unfold eF fullF
    omega
  unfold Ieee.Format.read
  dsimp only
  rw [hneg, hab, fk_bin, fk_inf, fk_low]
  unfold infF
  by_cases h1 : eF (fk k) a = fullF (fk k)
  · rw [if_pos h1]
    rw [h1] at he
    have hge : 2 ^ (fP (fk k) - 1) * 1 ≤ 2 ^ (fP (fk k) - 1) * fullF (fk k) := Nat.mul_le_mul_left _ hfull
    rw [if_neg (by omega), if_neg (by omega)]
    by_cases h2 : mF (fk k) a = 0
    · rw [if_pos h2, if_pos (by omega)]
    · rw [if_neg h2, if_neg (by omega)]
      congr 1
      omega
  · rw [if_neg h1]
    unfold mant xpn
    by_cases h2 : eF (fk k) a = 0
    · rw [h2, Nat.mul_zero, Nat.add_zero] at he
      rw [if_pos (by omega), if_pos h2, if_pos h2, he, Int.add_zero]
      rfl
    · have h3 : 2 ^ (fP (fk k) - 1) * 1 ≤ 2 ^ (fP (fk k) - 1) * eF (fk k) a := Nat.mul_le_mul_left _ (by omega)
      have h4 : 2 ^ (fP (fk k) - 1) * (eF (fk k) a + 1) ≤ 2 ^ (fP (fk k) - 1) * fullF (fk k) := Nat.mul_le_mul_left _ (by omega)
      rw [Nat.mul_add, Nat.mul_one] at h4
      rw [if_neg (by omega), if_pos (by omega), if_neg h2, if_neg h2, p1, p2, Nat.add_comm]
      congr 1
      unfold qm
      omega
/-- places stand as values do -/
theorem place_val {f : Int} (hf : Fm f) {a b : Nat} (ha : chk f a = 0) (hb : chk f b = 0) (fa : eF f a ≠ fullF f) (fb : eF f b ≠ fullF f) : (place f a < place f b ↔ vA f a < vA f b) ∧ (place f a = place f b ↔ vA f a = vA f b) := by
  have key : ∀ {a b : Nat}, chk f a = 0 → chk f b = 0 → eF f a ≠ fullF f → eF f b ≠ fullF f → vA f a ≤ vA f b → place f a ≤ place f b := fun {a b} ha hb fa fb h => by
    rw [self_plc hf ha fa, self_plc hf hb fb]
    exact plc_mono hf (by decide) h
  have heq : place f a = place f b → vA f a = vA f b := same_val hf
  have h1 := fun h => key ha hb fa fb h
  have h2 := fun h => key hb ha fb fa h
  refine ⟨⟨fun h => ?_, fun h => ?_⟩, ⟨heq, fun h => ?_⟩⟩
  · rcases Int.lt_or_le (vA f a) (vA f b) with g | g
    · exact g
    · have := h2 g; omega
  · rcases Int.lt_or_le (place f a) (place f b) with g | g
    · exact g
    · have g1 := h1 (Int.le_of_lt h)
      have := heq (by omega)
      omega
  · have g1 := h1 (by omega)
    have g2 := h2 (by omega)
    omega
theorem signed_val (f : Int) (s : Bool) (m : Nat) {e q : Int} (h1 : qm f ≤ q) (h2 : q ≤ e) : Ieee.signed s m (e - q).toNat * (2 ^ (q - qm f).toNat : Nat) = vI f s m e := by
  unfold Ieee.signed vI
  have hm : m * 2 ^ (e - q).toNat * 2 ^ (q - qm f).toNat = m * 2 ^ (e - qm f).toNat := by
    rw [Nat.mul_assoc, ← Nat.pow_add]; congr 2; omega
  rw [Nat.shiftLeft_eq]
  cases s
  · rw [if_neg (by decide), cond_false, ← hm]
    simp only [Int.natCast_mul]
  · rw [if_pos rfl, cond_true, ← hm]
    simp only [Int.natCast_mul, Int.neg_mul]
theorem compare_iff {x y z w : Int} (h1 : x < y ↔ z < w) (h2 : x = y ↔ z = w) : compare x y = compare z w := by
  show compareOfLessAndEq x y = compareOfLessAndEq z w
  unfold compareOfLessAndEq
  by_cases g1 : x < y
  · rw [if_pos g1, if_pos (h1.1 g1)]
  · have g3 : ¬ z < w := fun h => g1 (h1.2 h)
    rw [if_neg g1, if_neg g3]
    by_cases g2 : x = y
    · rw [if_pos g2, if_pos (h2.1 g2)]
    · have g4 : ¬ z = w := fun h => g2 (h2.2 h)
      rw [if_neg g2, if_neg g4]
theorem compare_mul (x y : Int) {c : Nat} (hc : 0 < c) : compare x y = compare (x * (c : Int)) (y * (c : Int)) := by
  have hc' : (0 : Int) < (c : Int) := by omega
  exact compare_iff ⟨fun h => Int.mul_lt_mul_of_pos_right h hc', fun h => Int.lt_of_mul_lt_mul_right h (by omega)⟩ ⟨fun h => by rw [h], fun h => Int.eq_of_mul_eq_mul_right (by omega) h⟩
theorem cmp_lt {x y : Int} (h : x < y) : compare x y = .lt := by
  show compareOfLessAndEq x y = _
  unfold compareOfLessAndEq
  rw [if_pos h]
theorem cmp_eq (x : Int) : compare x x = .eq := by
  show compareOfLessAndEq x x = _
  unfold compareOfLessAndEq
  rw [if_neg (Int.lt_irrefl x), if_pos rfl]
theorem cmp_gt {x y : Int} (h : y < x) : compare x y = .gt := by
  have h1 : ¬ x < y := by omega
  have h2 : ¬ x = y := by omega
  show compareOfLessAndEq x y = _
  unfold compareOfLessAndEq
  rw [if_neg h1, if_neg h2]
theorem place_full {f : Int} (hf : Fm f) {a : Nat} (h1 : eF f a = fullF f) (h2 : mF f a = 0) : place f a = bif sF f a then -(infF f : Int) else infF f := by
  unfold place infF
  rw [abs_eq hf, h1, h2, Nat.zero_add]
theorem place_part {f : Int} (hf : Fm f) {a : Nat} (h1 : eF f a ≠ fullF f) : -(infF f : Int) < place f a ∧ place f a < infF f := by
  have hel : eF f a ≤ fullF f := by
    have := Nat.mod_lt (a / 2 ^ (fP f - 1)) (Nat.two_pow_pos (fW f - fP f))
    unfold eF fullF
    omega
  have he := abs_eq hf a
  have hm := mF_lt f a
  have h4 : 2 ^ (fP f - 1) * (eF f a + 1) ≤ 2 ^ (fP f - 1) * fullF f := Nat.mul_le_mul_left _ (by omega)
  rw [Nat.mul_add, Nat.mul_one] at h4
  unfold place infF
  cases sF f a <;> simp only [cond_true, cond_false] <;> omega
/-- how two words stand to each other -/
theorem order_eq (k : FloatKind) {a b : Nat} (ha : chk (fk k) a = 0) (hb : chk (fk k) b = 0) :
    k.format.order a b = if nan (fk k) a || nan (fk k) b then none else some (compare (place (fk k) a) (place (fk k) b)) := by
  have hf := fk_ok k
  unfold Ieee.Format.order
  rw [read_eq k ha, read_eq k hb]
  have hpos := infF_pos hf
  by_cases fa : eF (fk k) a = fullF (fk k)
  · rw [if_pos fa]
    by_cases ma : mF (fk k) a = 0
    · have na : nan (fk k) a = false := by unfold nan; simp [ma]
      have pa := place_full hf fa ma
      rw [if_pos ma, na, Bool.false_or]
      by_cases fb : eF (fk k) b = fullF (fk k)
      · rw [if_pos fb]
        by_cases mb : mF (fk k) b = 0
        · have nb : nan (fk k) b = false := by unfold nan; simp [mb]
          have pb := place_full hf fb mb
          rw [if_pos mb, nb, pa, pb]
          show some (compare (sF (fk k) b).toNat (sF (fk k) a).toNat) = some _
          cases sF (fk k) a <;> cases sF (fk k) b <;> simp only [cond_true, cond_false]
          · rw [cmp_eq]; rfl
          · rw [cmp_gt (by omega)]; rfl
          · rw [cmp_lt (by omega)]; rfl
          · rw [cmp_eq]; rfl
        · have nb : nan (fk k) b = true := by unfold nan; simp [mb, fb]
          rw [if_neg mb, nb]; rfl
      · have nb : nan (fk k) b = false := (part_vals fb).1
        have pb := place_part hf fb
        rw [if_neg fb, nb, pa]
        show some (if sF (fk k) a = true then Ordering.lt else .gt) = some _
        cases sF (fk k) a <;> simp only [cond_true, cond_false]
        · rw [cmp_gt pb.2]; rfl
        · rw [cmp_lt pb.1]; rfl
    · have na : nan (fk k) a = true := by unfold nan; simp [ma, fa]
      rw [if_neg ma, na]; rfl
  · have na : nan (fk k) a = false := (part_vals fa).1
    have pa := place_part hf fa
    rw [if_neg fa, na, Bool.false_or]
    by_cases fb : eF (fk k) b = fullF (fk k)
    · rw [if_pos fb]
      by_cases mb : mF (fk k) b = 0
      · have nb : nan (fk k) b = false := by unfold nan; simp [mb]
        have pb := place_full hf fb mb
        rw [if_pos mb, nb, pb]
        show some (if sF (fk k) b = true then Ordering.gt else .lt) = some _
        cases sF (fk k) b <;> simp only [cond_true, cond_false]
        · rw [cmp_lt pa.2]; rfl
        · rw [cmp_gt pa.1]; rfl
      · have nb : nan (fk k) b = true := by unfold nan; simp [mb, fb]
        rw [if_neg mb, nb]; rfl
    · have nb : nan (fk k) b = false := (part_vals fb).1
      rw [if_neg fb, nb]
      show some (compare (Ieee.signed (sF (fk k) a) (mant (fk k) a) (xpn (fk k) a - min (xpn (fk k) a) (xpn (fk k) b)).toNat) (Ieee.signed (sF (fk k) b) (mant (fk k) b) (xpn (fk k) b - min (xpn (fk k) a) (xpn (fk k) b)).toNat)) = some _
      congr 1
      have g1 := xpn_ge (fk k) a
      have g2 := xpn_ge (fk k) b
      have hb1 : qm (fk k) ≤ min (xpn (fk k) a) (xpn (fk k) b) := by omega
      rw [compare_mul _ _ (Nat.two_pow_pos (min (xpn (fk k) a) (xpn (fk k) b) - qm (fk k)).toNat), signed_val (fk k) _ _ hb1 (by omega), signed_val (fk k) _ _ hb1 (by omega)]
      obtain ⟨c1, c2⟩ := place_val hf ha hb fa fb
      exact (compare_iff c1 c2).symm
end VL
namespace VL
open Go Vx
theorem word_mk (k : FloatKind) (neg : Bool) (r : Nat) : k.format.word neg r = mkF (fk k) neg r := by
  unfold Ieee.Format.word mkF
  rw [fk_sgn]
  cases neg
  · rw [if_neg (by decide), cond_false, Nat.add_zero]
  · rw [if_pos rfl, cond_true, Nat.add_comm]
theorem furM0 (neg odd : Bool) (rest : Nat) : furM 0 neg odd rest = if rest = 2 then odd else decide (2 ≤ rest) := rfl
theorem log2_zero_lt (n : Nat) : n < 2 ^ (n.log2 + 1) := by
  by_cases h : n = 0
  · subst h; decide
  · have := blen_lt n
    unfold blen at this
    rw [if_neg h] at this
    exact this
/-- the machine's cut is the rounding to the nearest even -/
theorem cut_even (neg : Bool) (n drop : Nat) : Ieee.Toward.even.cut neg n drop = cutJ 0 neg n drop := by
  unfold Ieee.Toward.cut cutJ
  dsimp only
  rw [Nat.shiftLeft_eq, Nat.one_mul]
  by_cases hd : drop ≤ n.log2 + 2
  · rw [Nat.min_eq_left hd, furM0]
    generalize hq : n / 2 ^ drop = q
    have hr := Nat.mod_lt n (Nat.two_pow_pos drop)
    generalize n % 2 ^ drop = r at *
    by_cases h0 : drop = 0
    · subst h0
      have : r = 0 := by rw [Nat.pow_zero] at hr; omega
      subst this
      rfl
    · have hp : 2 ^ drop = 2 * 2 ^ (drop - 1) := by rw [Nat.mul_comm, ← Nat.pow_succ]; congr 1; omega
      have hpp := Nat.two_pow_pos (drop - 1)
      have hcl : clsR r drop = (if r = 0 then 0 else if r < 2 ^ (drop - 1) then 1 else if r = 2 ^ (drop - 1) then 2 else 3) := rfl
      rw [hp] at hr ⊢
      generalize clsR r drop = C at *
      generalize 2 ^ (drop - 1) = H at *
      by_cases c0 : r = 0
      · rw [if_pos c0] at hcl
        subst hcl
        subst c0
        have e1 : decide (2 * H < 2 * 0) = false := decide_eq_false (by omega)
        have e2 : (2 * H == 2 * 0) = false := beq_eq_false_iff_ne.2 (by omega)
        rw [e1, e2]
        rfl
      · rw [if_neg c0] at hcl
        by_cases c1 : r < H
        · rw [if_pos c1] at hcl
          subst hcl
          have e1 : decide (2 * H < 2 * r) = false := decide_eq_false (by omega)
          have e2 : (2 * H == 2 * r) = false := beq_eq_false_iff_ne.2 (by omega)
          rw [e1, e2]
          rfl
        · rw [if_neg c1] at hcl
          by_cases c2 : r = H
          · rw [if_pos c2] at hcl
            subst hcl
            subst c2
            have e1 : decide (2 * r < 2 * r) = false := decide_eq_false (by omega)
            rw [e1, beq_self_eq_true, if_pos rfl, Bool.false_or, Bool.true_and]
            by_cases ho : q % 2 = 1
            · rw [ho, if_pos ⟨by decide, by rfl⟩]; rfl
            · rw [if_neg (fun h => by simpa [ho] using h.2), show q % 2 = 0 by omega]; rfl
          · rw [if_neg c2] at hcl
            subst hcl
            have e1 : decide (2 * H < 2 * r) = true := decide_eq_true (by omega)
            rw [e1, Bool.true_or, if_pos ⟨by decide, by rfl⟩]; rfl
  · have hlt := log2_zero_lt n
    have h1 : n < 2 ^ (n.log2 + 2) := Nat.lt_trans hlt (Nat.pow_lt_pow_right (by decide) (by omega))
    have h2 : n < 2 ^ (drop - 1) := Nat.lt_of_lt_of_le hlt (Nat.pow_le_pow_right (by decide) (by omega))
    have h3 : n < 2 ^ drop := Nat.lt_of_lt_of_le hlt (Nat.pow_le_pow_right (by decide) (by omega))
    have h4 : 2 * n < 2 ^ (n.log2 + 2) := by
      rw [show n.log2 + 2 = (n.log2 + 1) + 1 by omega, Nat.pow_succ]; omega
    rw [Nat.min_eq_right (by omega), Nat.div_eq_of_lt h1, Nat.mod_eq_of_lt h1, Nat.div_eq_of_lt h3, Nat.mod_eq_of_lt h3]
    have e1 : decide (2 ^ (n.log2 + 2) < 2 * n) = false := decide_eq_false (by omega)
    have e2 : (2 ^ (n.log2 + 2) == 2 * n) = false := beq_eq_false_iff_ne.2 (by omega)
    rw [e1, e2, furM0]
    unfold clsR
    by_cases c0 : n = 0
    · subst c0; rfl
    · rw [if_neg c0, if_pos h2]; rfl
theorem cutJ_zero (neg : Bool) (n : Nat) : cutJ 0 neg n 0 = n := by
  unfold cutJ
  rw [Nat.pow_zero, Nat.mod_one, Nat.div_one]
  rfl
theorem cutJ_exact (m : Int) (neg : Bool) (n j : Nat) : cutJ m neg (n * 2 ^ j) j = n := by
  unfold cutJ
  rw [Nat.mul_mod_left, Nat.mul_div_cancel _ (Nat.two_pow_pos j)]
  rw [if_neg (fun h => h.1 rfl)]
theorem cutJ_scale (m : Int) (neg : Bool) (n : Nat) {d k : Nat} (hd : 1 ≤ d) : cutJ m neg (n * 2 ^ k) (k + d) = cutJ m neg n d := by
  unfold cutJ
  have e1 : n * 2 ^ k / 2 ^ (k + d) = n / 2 ^ d := by
    rw [Nat.pow_add, ← Nat.div_div_eq_div_mul, Nat.mul_div_cancel _ (Nat.two_pow_pos k)]
  have e2 : n * 2 ^ k % 2 ^ (k + d) = 2 ^ k * (n % 2 ^ d) := by
    rw [Nat.pow_add, Nat.mul_comm n, Nat.mul_mod_mul_left]
  rw [e1, e2, cls_scale hd]
/-- the machine's rounding of a number at or above the least place -/
theorem nearest_eq (k : FloatKind) (neg : Bool) {mag : Nat} (h0 : mag ≠ 0) {place : Int} (hp : qm (fk k) ≤ place) :
    k.format.nearest neg mag place = mkF (fk k) neg (rndM (fk k) 0 neg (mag * 2 ^ (place - qm (fk k)).toNat) (qm (fk k))).1 := by
  have hf := fk_ok k
  have hP := fP_ge hf
  obtain ⟨D, hD⟩ := Int.eq_ofNat_of_zero_le (show 0 ≤ place - qm (fk k) by omega)
  have hN0 : mag * 2 ^ D ≠ 0 := Nat.mul_ne_zero h0 (Nat.ne_of_gt (Nat.two_pow_pos D))
  have hbl : blen (mag * 2 ^ D) = mag.log2 + 1 + D := by
    rw [Nat.mul_comm, ← Nat.zero_add (2 ^ D * mag), blen_split (Nat.two_pow_pos D) (by omega)]
    unfold blen
    rw [if_neg h0]; omega
  rw [hD, Int.toNat_natCast, rndM_mu hf 0 neg hN0]
  have hup : limM (fk k) 0 neg = infF (fk k) := rfl
  unfold Ieee.Format.nearest
  rw [if_neg h0, word_mk, fk_low, fk_frac, fk_bin, fk_inf]
  congr 1
  have key : (max (place + (mag.log2 : Int) - ((fP (fk k) - 1 : Nat) : Int)) (qm (fk k)) - qm (fk k)).toNat * 2 ^ (fP (fk k) - 1) +
      Ieee.Toward.even.cut neg (mag <<< (place - max (place + (mag.log2 : Int) - ((fP (fk k) - 1 : Nat) : Int)) (qm (fk k))).toNat) (max (place + (mag.log2 : Int) - ((fP (fk k) - 1 : Nat) : Int)) (qm (fk k)) - place).toNat = muM (fk k) 0 neg (mag * 2 ^ D) := by
    rw [cut_even, Nat.shiftLeft_eq]
    unfold muM
    by_cases hs : mag * 2 ^ D < 2 ^ fP (fk k)
    · rw [if_pos hs]
      have hb := blen_bound hs
      rw [show max (place + (mag.log2 : Int) - ((fP (fk k) - 1 : Nat) : Int)) (qm (fk k)) = qm (fk k) by omega, Int.sub_self, Int.toNat_zero, Nat.zero_mul, Nat.zero_add, hD, Int.toNat_natCast, show (qm (fk k) - place).toNat = 0 by omega, cutJ_zero]
    · rw [if_neg hs]
      have hb : fP (fk k) < blen (mag * 2 ^ D) := by
        rcases Nat.lt_or_ge (fP (fk k)) (blen (mag * 2 ^ D)) with h | h
        · exact h
        · exact absurd (Nat.lt_of_lt_of_le (blen_lt _) (Nat.pow_le_pow_right (by decide) h)) hs
      rw [hbl] at hb ⊢
      obtain ⟨j, hj⟩ : ∃ j, mag.log2 + 1 + D - fP (fk k) = j := ⟨_, rfl⟩
      have hl : max (place + (mag.log2 : Int) - ((fP (fk k) - 1 : Nat) : Int)) (qm (fk k)) = qm (fk k) + (j : Int) := by omega
      rw [hl, hj, show qm (fk k) + (j : Int) - qm (fk k) = (j : Int) by omega, Int.toNat_natCast]
      congr 1
      by_cases hDj : j ≤ D
      · rw [show (qm (fk k) + (j : Int) - place).toNat = 0 by omega, show (place - (qm (fk k) + (j : Int))).toNat = D - j by omega, cutJ_zero]
        have e : mag * 2 ^ D = (mag * 2 ^ (D - j)) * 2 ^ j := by rw [Nat.mul_assoc, ← Nat.pow_add]; congr 2; omega
        rw [e, cutJ_exact]
      · rw [show (place - (qm (fk k) + (j : Int))).toNat = 0 by omega, Nat.pow_zero, Nat.mul_one, show (qm (fk k) + (j : Int) - place).toNat = j - D by omega]
        have e := cutJ_scale 0 neg mag (d := j - D) (k := D) (by omega)
        rw [show D + (j - D) = j by omega] at e
        exact e.symm
  rw [key, hup]
  by_cases h : infF (fk k) ≤ muM (fk k) 0 neg (mag * 2 ^ D)
  · rw [if_pos h, Nat.min_eq_right h]
  · rw [if_neg h, Nat.min_eq_left (by omega)]
theorem rnd_nearest (k : FloatKind) (neg : Bool) {mag : Nat} (h0 : mag ≠ 0) {place : Int} (hp : qm (fk k) ≤ place) : k.format.nearest neg mag place = (rndN (fk k) 0 neg mag place false).1 := by
  rw [nearest_eq k neg h0 hp, rnd_qm (fk_ok k) 0 neg h0 hp]
theorem nearest_zero (k : FloatKind) (neg : Bool) (place : Int) : k.format.nearest neg 0 place = sgnF (fk k) neg := by
  unfold Ieee.Format.nearest
  rw [if_pos rfl, word_mk, ← add_sgn, Nat.zero_add]
theorem near (k : FloatKind) (T : Int) (z : Bool) {e : Int} (he : qm (fk k) ≤ e) :
    k.format.nearest (if T = 0 then z else decide (T < 0)) T.natAbs e = if T = 0 then sgnF (fk k) z else (rndN (fk k) 0 (decide (T < 0)) T.natAbs e false).1 := by
  by_cases h : T = 0
  · rw [if_pos h, if_pos h, h]
    exact nearest_zero k z e
  · rw [if_neg h, if_neg h]
    exact rnd_nearest k _ (by omega) he
/-- an exact sum, as the machine rounds it -/
theorem sum_write (k : FloatKind) (s : Bool) (m : Nat) (i : Int) (t : Bool) (n : Nat) (j : Int) (hi : qm (fk k) ≤ i) (hj : qm (fk k) ≤ j) :
    ((Ieee.Datum.number s m i).sum (.number t n j)).map k.format.write = some (sumBits (fk k) 0 s m i t n j).1 := by
  have hmin : min i j = (if i ≤ j then i else j) := by split <;> omega
  show some (k.format.nearest (if Ieee.signed s m (i - min i j).toNat + Ieee.signed t n (j - min i j).toNat = 0 then s && t else decide (Ieee.signed s m (i - min i j).toNat + Ieee.signed t n (j - min i j).toNat < 0)) (Ieee.signed s m (i - min i j).toNat + Ieee.signed t n (j - min i j).toNat).natAbs (min i j)) = _
  congr 1
  have hq : qm (fk k) ≤ min i j := by omega
  rw [near k _ _ hq]
  unfold sumBits Ieee.signed
  rw [hmin]
  rw [Nat.shiftLeft_eq, Nat.shiftLeft_eq]
  dsimp only
  generalize (if i ≤ j then i else j) = e at *
  generalize m * 2 ^ (i - e).toNat = A
  generalize n * 2 ^ (j - e).toNat = B
  have eA : ∀ {T : Int} {s : Bool} {r : Nat}, decide (T < 0) = s → T.natAbs = r → (rndN (fk k) 0 (decide (T < 0)) T.natAbs e false).1 = (rndN (fk k) 0 s r e false).1 := fun h1 h2 => by rw [h1, h2]
  cases s <;> cases t
  · show (if (A : Int) + (B : Int) = 0 then sgnF (fk k) false else (rndN (fk k) 0 (decide ((A : Int) + (B : Int) < 0)) ((A : Int) + (B : Int)).natAbs e false).1) = (if A + B = 0 then (sgnF (fk k) false, 0) else rndN (fk k) 0 false (A + B) e false).1
    by_cases h : A + B = 0
    · have h2 : (A : Int) + (B : Int) = 0 := by omega
      rw [if_pos h, if_pos h2]
    · have h2 : ¬ (A : Int) + (B : Int) = 0 := by omega
      rw [if_neg h, if_neg h2]
      exact eA (decide_eq_false (by omega)) (by omega)
  · show (if (A : Int) + -(B : Int) = 0 then sgnF (fk k) false else (rndN (fk k) 0 (decide ((A : Int) + -(B : Int) < 0)) ((A : Int) + -(B : Int)).natAbs e false).1) = (if A = B then (sgnF (fk k) false, 0) else if B < A then rndN (fk k) 0 false (A - B) e false else rndN (fk k) 0 true (B - A) e false).1
    by_cases h : A = B
    · have h2 : (A : Int) + -(B : Int) = 0 := by omega
      rw [if_pos h, if_pos h2]
    · have h2 : ¬ (A : Int) + -(B : Int) = 0 := by omega
      rw [if_neg h, if_neg h2]
      by_cases h3 : B < A
      · rw [if_pos h3]
        exact eA (decide_eq_false (by omega)) (by omega)
      · rw [if_neg h3]
        exact eA (decide_eq_true (by omega)) (by omega)
  · show (if -(A : Int) + (B : Int) = 0 then sgnF (fk k) false else (rndN (fk k) 0 (decide (-(A : Int) + (B : Int) < 0)) (-(A : Int) + (B : Int)).natAbs e false).1) = (if A = B then (sgnF (fk k) false, 0) else if B < A then rndN (fk k) 0 true (A - B) e false else rndN (fk k) 0 false (B - A) e false).1
    by_cases h : A = B
    · have h2 : -(A : Int) + (B : Int) = 0 := by omega
      rw [if_pos h, if_pos h2]
    · have h2 : ¬ -(A : Int) + (B : Int) = 0 := by omega
      rw [if_neg h, if_neg h2]
      by_cases h3 : B < A
      · rw [if_pos h3]
        exact eA (decide_eq_true (by omega)) (by omega)
      · rw [if_neg h3]
        exact eA (decide_eq_false (by omega)) (by omega)
  · show (if -(A : Int) + -(B : Int) = 0 then sgnF (fk k) true else (rndN (fk k) 0 (decide (-(A : Int) + -(B : Int) < 0)) (-(A : Int) + -(B : Int)).natAbs e false).1) = (if A + B = 0 then (sgnF (fk k) true, 0) else rndN (fk k) 0 true (A + B) e false).1
    by_cases h : A + B = 0
    · have h2 : -(A : Int) + -(B : Int) = 0 := by omega
      rw [if_pos h, if_pos h2]
    · have h2 : ¬ -(A : Int) + -(B : Int) = 0 := by omega
      rw [if_neg h, if_neg h2]
      exact eA (decide_eq_true (by omega)) (by omega)
/-- a NaN as the canonical one -/
def canB (f : Int) (o : Option Nat) : Nat := o.getD (nanF f)
theorem inf_pat (k : FloatKind) {a : Nat} (h : chk (fk k) a = 0) (h1 : eF (fk k) a = fullF (fk k)) (h2 : mF (fk k) a = 0) : k.format.word (sF (fk k) a) k.format.infRung = a := by
  have hf := fk_ok k
  rw [word_mk, fk_inf]
  have := pat_eq h
  rw [abs_eq hf, h1, h2, Nat.zero_add] at this
  unfold mkF infF
  exact this.symm
/-- the machine's sum is the program's -/
theorem add_eq (k : FloatKind) {a b : Nat} (ha : chk (fk k) a = 0) (hb : chk (fk k) b = 0) : (addA (fk k) 0 a b).1 = (canB (fk k) (fop .add k a b) : Nat) ∧ (addA (fk k) 0 a b).2.2.1 = 0 := by
  have hf := fk_ok k
  unfold addA
  rw [if_pos hf, if_pos ⟨by decide, by decide⟩, if_pos ⟨ha, hb⟩]
  show (addR (fk k) 0 a b).1 = (canB (fk k) (((k.format.read a).sum (k.format.read b)).map k.format.write) : Nat) ∧ _
  rw [read_eq k ha, read_eq k hb]
  unfold addR
  have sn : ∀ x, snan (fk k) x = true → nan (fk k) x = true := fun x h => by unfold snan at h; simp only [Bool.and_eq_true] at h; exact h.1
  by_cases na : nan (fk k) a = true
  · have h1 : eF (fk k) a = fullF (fk k) ∧ mF (fk k) a ≠ 0 := by unfold nan at na; simpa using na
    rw [if_pos h1.1, if_neg h1.2, na, Bool.true_or]
    have : ∀ d, ((Ieee.Datum.nan (sF (fk k) a) (mF (fk k) a)).sum d).map k.format.write = none := fun d => rfl
    rw [this]
    cases snan (fk k) a || snan (fk k) b <;> exact ⟨rfl, rfl⟩
  · have na : nan (fk k) a = false := by simpa using na
    rw [na, Bool.false_or]
    by_cases nb : nan (fk k) b = true
    · have h1 : eF (fk k) b = fullF (fk k) ∧ mF (fk k) b ≠ 0 := by unfold nan at nb; simpa using nb
      have this : ∀ d : Ieee.Datum, (d.sum (Ieee.Datum.nan (sF (fk k) b) (mF (fk k) b))).map k.format.write = none := fun d => by cases d <;> rfl
      rw [if_pos (c := eF (fk k) b = _) h1.1, if_neg (c := mF (fk k) b = 0) h1.2, this, nb]
      cases snan (fk k) a || snan (fk k) b <;> exact ⟨rfl, rfl⟩
    · have nb : nan (fk k) b = false := by simpa using nb
      have sa := snan_nan na
      have sb := snan_nan nb
      rw [nb, sa, sb, Bool.or_self, cond_false, cond_false]
      by_cases fa : eF (fk k) a = fullF (fk k)
      · have ma : mF (fk k) a = 0 := by
          unfold nan at na; rw [fa] at na; simpa using na
        have ia : isInf (fk k) a = true := by rw [(full_vals fa).2.2, ma]; rfl
        rw [if_pos fa, if_pos ma, ia, Bool.true_and]
        by_cases fb : eF (fk k) b = fullF (fk k)
        · have mb : mF (fk k) b = 0 := by
            unfold nan at nb; rw [fb] at nb; simpa using nb
          have ib : isInf (fk k) b = true := by rw [(full_vals fb).2.2, mb]; rfl
          rw [if_pos fb, if_pos mb, ib, Bool.true_and]
          show _ ∧ _
          by_cases hs : sF (fk k) a = sF (fk k) b
          · have e : (Ieee.Datum.infinity (sF (fk k) a)).sum (.infinity (sF (fk k) b)) = some (.infinity (sF (fk k) a)) := by
              show (if sF (fk k) a = sF (fk k) b then _ else _) = _
              rw [if_pos hs]
            rw [e, beq_iff_eq.2 hs]
            refine ⟨?_, rfl⟩
            show (a : Int) = ((k.format.word (sF (fk k) a) k.format.infRung : Nat) : Int)
            rw [inf_pat k ha fa ma]
          · have e : (Ieee.Datum.infinity (sF (fk k) a)).sum (.infinity (sF (fk k) b)) = none := by
              show (if sF (fk k) a = sF (fk k) b then _ else _) = _
              rw [if_neg hs]
            rw [e, beq_eq_false_iff_ne.2 hs]
            exact ⟨rfl, rfl⟩
        · have ib : isInf (fk k) b = false := (part_vals fb).2.2
          rw [if_neg fb, ib, Bool.false_and, cond_false, cond_true]
          refine ⟨?_, rfl⟩
          show (a : Int) = ((k.format.word (sF (fk k) a) k.format.infRung : Nat) : Int)
          rw [inf_pat k ha fa ma]
      · have ia : isInf (fk k) a = false := (part_vals fa).2.2
        rw [if_neg fa, ia, Bool.false_and, Bool.false_and, cond_false, cond_false]
        by_cases fb : eF (fk k) b = fullF (fk k)
        · have mb : mF (fk k) b = 0 := by
            unfold nan at nb; rw [fb] at nb; simpa using nb
          have ib : isInf (fk k) b = true := by rw [(full_vals fb).2.2, mb]; rfl
          rw [if_pos fb, if_pos mb, ib, cond_true]
          refine ⟨?_, rfl⟩
          show (b : Int) = ((k.format.word (sF (fk k) b) k.format.infRung : Nat) : Int)
          rw [inf_pat k hb fb mb]
        · have ib : isInf (fk k) b = false := (part_vals fb).2.2
          rw [if_neg fb, ib, cond_false, sum_write k _ _ _ _ _ _ (xpn_ge (fk k) a) (xpn_ge (fk k) b)]
          exact ⟨rfl, rfl⟩
/-- the opposite of a word -/
theorem neg_parts {f : Int} (hf : Fm f) (b : Nat) : eF f (negF f b) = eF f b ∧ mF f (negF f b) = mF f b := by
  obtain ⟨p1, p2⟩ := abs_parts hf b
  obtain ⟨q1, q2⟩ := abs_parts hf (negF f b)
  rw [neg_abs] at q1 q2
  exact ⟨by rw [← p2, ← q2], by rw [← p1, ← q1]⟩
theorem read_neg (k : FloatKind) {b : Nat} (hb : chk (fk k) b = 0) : (k.format.read b).opposite = k.format.read (negF (fk k) b) := by
  have hf := fk_ok k
  have hn := neg_chk hf b
  obtain ⟨e1, e2⟩ := neg_parts hf b
  rw [read_eq k hb, read_eq k hn, e1, e2, neg_sgn]
  have e3 : mant (fk k) (negF (fk k) b) = mant (fk k) b := by unfold mant; rw [e1, e2]
  have e4 : xpn (fk k) (negF (fk k) b) = xpn (fk k) b := by unfold xpn; rw [e1]
  rw [e3, e4]
  by_cases h1 : eF (fk k) b = fullF (fk k)
  · rw [if_pos h1, if_pos h1]
    by_cases h2 : mF (fk k) b = 0
    · rw [if_pos h2, if_pos h2]; rfl
    · rw [if_neg h2, if_neg h2]; rfl
  · rw [if_neg h1, if_neg h1]; rfl
theorem sub_add (k : FloatKind) (a : Nat) {b : Nat} (hb : chk (fk k) b = 0) : fop .sub k a b = fop .add k a (negF (fk k) b) := by
  show ((k.format.read a).sum (k.format.read b).opposite).map k.format.write = ((k.format.read a).sum (k.format.read (negF (fk k) b))).map k.format.write
  rw [read_neg k hb]
/-- the machine's difference is the program's -/
theorem sub_eq (k : FloatKind) {a b : Nat} (ha : chk (fk k) a = 0) (hb : chk (fk k) b = 0) : (subA (fk k) 0 a b).1 = (canB (fk k) (fop .sub k a b) : Nat) ∧ (subA (fk k) 0 a b).2.2.1 = 0 := by
  unfold subA
  rw [if_pos hb, sub_add k a hb]
  exact add_eq k ha (neg_chk (fk_ok k) b)
/-- what is written is no NaN, but a NaN -/
theorem write_num (k : FloatKind) {d : Ieee.Datum} (h : d.isNaN = false) : chk (fk k) (k.format.write d) = 0 ∧ nan (fk k) (k.format.write d) = false := by
  have hf := fk_ok k
  have key : ∀ s r, r ≤ infF (fk k) → chk (fk k) (k.format.word s r) = 0 ∧ nan (fk k) (k.format.word s r) = false := fun s r hr => by
    have hroom := inf_room hf
    have hlt : r < 2 ^ (fW (fk k) - 1) := by omega
    rw [word_mk]
    refine ⟨mk_chk hf s hlt, nan_of_le hf ?_⟩
    rw [mk_abs s hlt]; exact hr
  cases d with
  | nan s t => cases h
  | infinity s => exact key s _ (by rw [fk_inf]; exact Nat.le_refl _)
  | number s m e =>
    show chk (fk k) (k.format.nearest s m e) = 0 ∧ nan (fk k) (k.format.nearest s m e) = false
    unfold Ieee.Format.nearest
    split
    · exact key s 0 (Nat.zero_le _)
    · exact key s _ (by rw [fk_inf]; exact Nat.min_le_right _ _)
theorem sum_num {d e r : Ieee.Datum} (h : d.sum e = some r) : r.isNaN = false := by
  cases d <;> cases e <;> first | (cases h; done) | skip
  · cases h; rfl
  · cases h; rfl
  · cases h; rfl
  · rename_i s t
    have h : (if s = t then some (Ieee.Datum.infinity s) else none) = some r := h
    split at h
    · cases h; rfl
    · cases h
/-- the bits of a sum, a NaN as the canonical one -/
theorem told_eq (k : FloatKind) {op : BinOp} (hop : op = .add ∨ op = .sub) (a b : Nat) :
    (bif flord k (flop op k (some a) (some b)) (flop op k (some a) (some b)) != some .eq then nanF (fk k) else (flop op k (some a) (some b)).getD 0) = canB (fk k) (fop op k a b) ∧
    ((flord k (flop op k (some a) (some b)) (flop op k (some a) (some b)) != some .eq) = false → (flop op k (some a) (some b)).isSome = true) := by
  have e : flop op k (some a) (some b) = fop op k a b := rfl
  rw [e]
  have hnum : ∀ r, fop op k a b = some r → chk (fk k) r = 0 ∧ nan (fk k) r = false := fun r h => by
    have key : ∀ {o : Option Ieee.Datum}, (∀ d, o = some d → d.isNaN = false) → o.map k.format.write = some r → chk (fk k) r = 0 ∧ nan (fk k) r = false := fun {o} ho h => by
      cases o with
      | none => cases h
      | some d => cases h; exact write_num k (ho d rfl)
    rcases hop with rfl | rfl
    · exact key (fun d hd => sum_num hd) h
    · exact key (fun d hd => sum_num hd) h
  cases h : fop op k a b with
  | none =>
    exact ⟨rfl, fun h => by cases h⟩
  | some r =>
    obtain ⟨h1, h2⟩ := hnum r h
    have ho : flord k (some r) (some r) = some .eq := by
      show k.format.order r r = _
      rw [order_eq k h1 h1, h2, Bool.or_self, if_neg (by decide)]
      congr 1
      show compareOfLessAndEq _ _ = _
      unfold compareOfLessAndEq
      rw [if_neg (by omega), if_pos rfl]
    rw [ho]
    exact ⟨rfl, fun _ => rfl⟩
end VL
namespace VL
open Go Vx
theorem chk_dbl {a : Nat} (h : a < 2 ^ 64) : chk 3 a = 0 := chk_ok (show Fm 3 from ⟨by decide, by decide⟩) h
theorem chk_sgl {a : Nat} (h : a < 2 ^ 32) : chk 2 a = 0 := chk_ok (show Fm 2 from ⟨by decide, by decide⟩) h
theorem wrap32 (a : Nat) : IntKind.wrap .u32 (a : Int) = ((a % 2 ^ 32 : Nat) : Int) := by
  show (a : Int) % 4294967296 = _
  omega
theorem nan_dbl : (9221120237041090560 : Int) = ((nanF 3 : Nat) : Int) := by decide
theorem nan_sgl : (2143289344 : Int) = ((nanF 2 : Nat) : Int) := by decide
theorem T20_told {op : BinOp} (hop : op = .add ∨ op = .sub) (a b : Nat) : T20 (flop op .f64 (some a) (some b), ()) = some (((canB 3 (fop op .f64 a b) : Nat) : Int), ()) := by
  obtain ⟨h1, h2⟩ := told_eq .f64 hop a b
  have h1 : _ = canB 3 (fop op .f64 a b) := h1
  show t20 (fun x => x.1.isSome) (fun x => (((x.1.getD 0 : Nat) : Int), ())) (flop op .f64 (some a) (some b)) = _
  unfold t20
  rw [← h1]
  cases h : flord .f64 (flop op .f64 (some a) (some b)) (flop op .f64 (some a) (some b)) != some .eq
  · rw [cond_false, cond_false]
    dsimp only
    rw [h2 h]; rfl
  · rw [cond_true, cond_true]
    show some ((9221120237041090560 : Int), ()) = _
    rw [nan_dbl]; rfl
theorem canB_lt (k : FloatKind) {op : BinOp} (a b : Nat) : canB (fk k) (fop op k a b) < 2 ^ 64 := by
  unfold canB
  cases h : fop op k a b with
  | none => cases k <;> decide
  | some r =>
    have := fop_lt h
    show r < _
    exact Nat.lt_of_lt_of_le this (Nat.pow_le_pow_right (by decide) (by cases k <;> decide))
theorem T21_told {op : BinOp} (hop : op = .add ∨ op = .sub) (a b : Nat) : T21 (flop op .f32 (some a) (some b), ()) = some (((canB 2 (fop op .f32 a b) : Nat) : Int), ()) := by
  obtain ⟨h1, h2⟩ := told_eq .f32 hop a b
  have h1 : _ = canB 2 (fop op .f32 a b) := h1
  have hlt : canB 2 (fop op .f32 a b) < 2 ^ 64 := canB_lt .f32 a b
  show t21 (fun x => x.1.isSome) (fun x => (((x.1.getD 0 : Nat) : Int), ())) (flop op .f32 (some a) (some b)) = _
  unfold t21
  rw [← h1] at hlt ⊢
  cases h : flord .f32 (flop op .f32 (some a) (some b)) (flop op .f32 (some a) (some b)) != some .eq
  · rw [h, cond_false] at hlt
    rw [cond_false, cond_false]
    dsimp only
    rw [h2 h, cond_true, wu_id _ hlt]
  · rw [cond_true, cond_true]
    show some ((2143289344 : Int), ()) = _
    rw [nan_sgl]; rfl
theorem T4_true {a b : Nat} (ha : a < 2 ^ 64) (hb : b < 2 ^ 64) : T4 ((a : Int), (b : Int), ()) = some (true, ()) := by
  show t4 S17.pre S17.F (fun _ => true) (fun x => (some x.1.toNat, ())) S20.pre S20.F (fun _ => true) (fun x => (some x.1.toNat, ())) S18.pre S18.F S19.pre S19.F S21.pre S21.F a b = _
  unfold t4
  have ha2 : a % 2 ^ 32 < 2 ^ 32 := Nat.mod_lt _ (by decide)
  have hb2 : b % 2 ^ 32 < 2 ^ 32 := Nat.mod_lt _ (by decide)
  have s1 := T18_eq 3 0 ha hb
  have d1 := T19_eq 3 0 ha hb
  have s2 := T18_eq 2 0 (a := a % 2 ^ 32) (b := b % 2 ^ 32) (by omega) (by omega)
  have d2 := T19_eq 2 0 (a := a % 2 ^ 32) (b := b % 2 ^ 32) (by omega) (by omega)
  obtain ⟨v1, k1⟩ := add_eq .f64 (a := a) (b := b) (chk_dbl ha) (chk_dbl hb)
  obtain ⟨v2, k2⟩ := sub_eq .f64 (a := a) (b := b) (chk_dbl ha) (chk_dbl hb)
  obtain ⟨v3, k3⟩ := add_eq .f32 (a := a % 2 ^ 32) (b := b % 2 ^ 32) (chk_sgl ha2) (chk_sgl hb2)
  obtain ⟨v4, k4⟩ := sub_eq .f32 (a := a % 2 ^ 32) (b := b % 2 ^ 32) (chk_sgl ha2) (chk_sgl hb2)
  have v1 : (addA 3 0 a b).1 = _ := v1
  have k1 : (addA 3 0 a b).2.2.1 = 0 := k1
  have v2 : (subA 3 0 a b).1 = _ := v2
  have k2 : (subA 3 0 a b).2.2.1 = 0 := k2
  have v3 : (addA 2 0 (a % 2 ^ 32) (b % 2 ^ 32)).1 = _ := v3
  have k3 : (addA 2 0 (a % 2 ^ 32) (b % 2 ^ 32)).2.2.1 = 0 := k3
  have v4 : (subA 2 0 (a % 2 ^ 32) (b % 2 ^ 32)).1 = _ := v4
  have k4 : (subA 2 0 (a % 2 ^ 32) (b % 2 ^ 32)).2.2.1 = 0 := k4
  have t1 := T20_told (.inl rfl) a b
  have t2 := T20_told (.inr rfl) a b
  have t3 := T21_told (.inl rfl) (a % 2 ^ 32) (b % 2 ^ 32)
  have t4 := T21_told (.inr rfl) (a % 2 ^ 32) (b % 2 ^ 32)
  have m1 : Int.tmod (a : Int) 4294967296 = ((a % 2 ^ 32 : Nat) : Int) := rfl
  have m2 : Int.tmod (b : Int) 4294967296 = ((b % 2 ^ 32 : Nat) : Int) := rfl
  have w1 : IntKind.wrap .u32 ((a % 2 ^ 32 : Nat) : Int) = ((a % 2 ^ 32 : Nat) : Int) := by rw [wrap32, Nat.mod_eq_of_lt ha2]
  have w2 : IntKind.wrap .u32 ((b % 2 ^ 32 : Nat) : Int) = ((b % 2 ^ 32 : Nat) : Int) := by rw [wrap32, Nat.mod_eq_of_lt hb2]
  have e3 : fk .f64 = 3 := rfl
  have e2 : fk .f32 = 2 := rfl
  rw [e3] at v1 v2
  rw [e2] at v3 v4
  simp only [m1, m2, w1, w2, pre17 t17_true, fun17 t17_true, cond_true, Bool.not_true, cond_false, Int.toNat_natCast, pre18 s1, fun18 s1, pre19 d1, fun19 d1, pre18 s2, fun18 s2, pre19 d2, fun19 d2, v1, v2, v3, v4, k1, k2, k3, k4, pre20 t1, fun20 t1, pre20 t2, fun20 t2, pre21 t3, fun21 t3, pre21 t4, fun21 t4, bne_self_eq_false, Bool.or_self, Bool.true_or, beq_self_eq_true, Bool.and_self]
end VL
namespace Vx
open Go Go.RowKit Go.ChangeShapes Go.WideShapes
/-- numbers in their ranges, lengths below 2^63 -/
def wfD : (τ : Shape) → Den τ → Prop
  | .int k, n => k.min ≤ n ∧ n ≤ k.max
  | .flt _, _ => True
  | .slice e, xs => xs.length < lim ∧ ∀ x ∈ xs, wfD e x
  | .pair a b, x => wfD a x.1 ∧ wfD b x.2
  | .bool, _ => True
  | .str, _ => True
  | .fn, _ => True
  | .unit, _ => True
theorem DRep.wfD {w : World} {S : Nat → Prop} : ∀ {τ : Shape} {x : Den τ} {cs : List Value}, DRep w S τ x cs → wfD τ x
  | .int _, _, _, h => h.2
  | .flt _, _, _, _ => trivial
  | .bool, _, _, _ => trivial
  | .str, _, _, _ => trivial
  | .fn, _, _, _ => trivial
  | .unit, _, _, _ => trivial
  | .slice _, xs, _, ⟨A, c, _, h1, h2, h3⟩ => by
    refine ⟨Nat.lt_of_le_of_lt h1 h2, fun x hx => ?_⟩
    obtain ⟨r, o, vs, T, fz, _, _, _, h⟩ := h3 (List.ne_nil_of_mem hx)
    obtain ⟨i, hi⟩ := List.getElem?_of_mem hx
    obtain ⟨ds, hd, _⟩ := h i x hi
    exact hd.wfD
  | .pair _ _, _, _, ⟨c1, c2, _, h1, h2⟩ => ⟨h1.wfD, h2.wfD⟩
def wfS : (sg : Sig) → DenS sg → Prop
  | [], _ => True
  | (_, τ) :: r, x => wfD τ x.1 ∧ wfS r x.2
/-- what a datum says -/
def undat {H : Type} : (τ : Shape) → (DataW H → Option (Den τ)) × (List (DataW H) → Option (Den τ))
  | .int k => (fun d => match d with | .lit (.int k' n) => if k' = k then some n else none | _ => none, fun _ => none)
  | .bool => (fun d => match d with | .lit (.bool b) => some b | _ => none, fun _ => none)
  | .unit => (fun d => match d with | .agg [] => some () | _ => none, fun l => match l with | [] => some () | _ => none)
  | .pair a b =>
    let f := fun l => match l with
      | d :: r => (match (undat a).1 d, (undat b).2 r with | some x, some y => some (x, y) | _, _ => none)
      | [] => none
    (fun d => match d with | .agg l => f l | _ => none, f)
  | .flt _ => (fun _ => none, fun _ => none)
  | .str => (fun _ => none, fun _ => none)
  | .fn => (fun _ => none, fun _ => none)
  | .slice _ => (fun _ => none, fun _ => none)
/-- a type's shape -/
def fitF (P : Program) (g : TypeId → Shape → Bool) : List Field → Nat → Shape → Bool
  | [], _, .unit => true
  | f :: fs, o, .pair a b => (f.offset == o) && (P.cellsOf f.type == a.width) && g f.type a && fitF P g fs (o + a.width) b
  | _, _, _ => false
def fitB (P : Program) : Nat → TypeId → Shape → Bool
  | 0, _, _ => false
  | n + 1, t, τ => match P.underlying t with
    | some (.int k) => (match τ with | .int k' => decide (k = k') | _ => false)
    | some .bool => (match τ with | .bool => true | _ => false)
    | some (.slice e) => (match τ with | .slice σ => (P.cellsOf e == σ.width) && decide (0 < σ.width) && fitB P n e σ | _ => false)
    | some (.struct fs) => (P.cellsOf t == τ.width) && fitF P (fitB P n) fs.toList 0 τ
    | _ => false
theorem choose_list {A : Type} {Q : Nat → A → Prop} : ∀ (n : Nat), (∀ i, i < n → ∃ x, Q i x) → ∃ xs : List A, xs.length = n ∧ ∀ i x, xs[i]? = some x → Q i x
  | 0, _ => ⟨[], rfl, fun i x h => by simp at h⟩
  | n + 1, h => by
    obtain ⟨xs, h1, h2⟩ := choose_list n fun i hi => h i (by omega)
    obtain ⟨x, hx⟩ := h n (by omega)
    refine ⟨xs ++ [x], by simp [h1], fun i y hy => ?_⟩
    rcases Nat.lt_or_ge i n with hi | hi
    · rw [List.getElem?_append_left (by omega)] at hy
      exact h2 i y hy
    · rw [List.getElem?_append_right (by omega)] at hy
      have : i = n := by
        have := (List.getElem?_eq_some_iff.1 hy).1
        simp at this; omega
      subst this
      simp [h1] at hy
      exact hy ▸ hx
theorem wf_int {k : IntKind} {n : Int} (h : (Lit.int k n).wf = true) : k.min ≤ n ∧ n ≤ k.max := by
  simpa [Lit.wf] using h
section
variable {H : Type} {enc : TypeId × Value → H} {P : Program} {W : World} {spare : Nat → Bool} {held : Bool}
theorem fitF_ok {n : Nat} {m : Nat} {cs : List Value} (ih : ∀ (t : TypeId) (τ : Shape) (cs : List Value) (d : DataW H) (p : List MemPlace), fitB P n t τ = true → DataW.trod enc P W 0 spare held m t cs = some (d, p) → ∃ x : Den τ, DRep W (fun q => q < W.heap.size) τ x cs ∧ ∀ y, (undat τ).1 d = some y → x = y) :
    ∀ (l : List Field) (o : Nat) (τ : Shape) (xs : List (DataW H × List MemPlace)), fitF P (fitB P n) l o τ = true → xs.length = l.length → cs.length = o + τ.width →
      (∀ (i : Nat) (f : Field), l[i]? = some f → DataW.trod enc P W 0 spare held m f.type ((cs.drop f.offset).take (P.cellsOf f.type)) = xs[i]?) →
      ∃ x : Den τ, DRep W (fun q => q < W.heap.size) τ x (cs.drop o) ∧ ∀ y, (undat τ).2 (xs.map (·.1)) = some y → x = y
  | [], o, τ, xs, hf, hx, hl, _ => by
    cases τ <;> simp [fitF] at hf
    refine ⟨(), ?_, fun _ _ => rfl⟩
    show cs.drop o = []
    apply List.drop_eq_nil_of_le
    simp [Shape.width] at hl
    omega
  | f :: fs, o, τ, xs, hf, hx, hl, h => by
    cases τ with
    | pair a b =>
      simp only [fitF, Bool.and_eq_true, beq_iff_eq] at hf
      obtain ⟨⟨⟨ho, hc⟩, hg⟩, hr⟩ := hf
      cases xs with
      | nil => simp at hx
      | cons x0 xs =>
        have h0 := h 0 f rfl
        rw [ho, hc] at h0
        simp only [List.getElem?_cons_zero] at h0
        obtain ⟨xa, ha, hua⟩ := ih f.type a _ x0.1 x0.2 hg h0
        simp only [Shape.width] at hl
        obtain ⟨xb, hb, hub⟩ := fitF_ok ih fs (o + a.width) b xs hr (by simpa using hx) (by rw [hl]; omega) fun i g hi => by
          have := h (i + 1) g (by simpa using hi)
          simpa using this
        refine ⟨(xa, xb), ⟨(cs.drop o).take a.width, cs.drop (o + a.width), ?_, ha, hb⟩, fun y hy => ?_⟩
        · rw [← List.drop_drop, List.take_append_drop]
        · simp only [undat, List.map_cons] at hy
          split at hy
          · rename_i e1 e2
            have := hua _ e1; have := hub _ e2
            subst_vars
            exact Option.some.inj hy
          · cases hy
    | _ => simp [fitF] at hf
theorem fit_ok : ∀ (n : Nat) (m : Nat) (t : TypeId) (τ : Shape) (cs : List Value) (d : DataW H) (p : List MemPlace), fitB P n t τ = true → DataW.trod enc P W 0 spare held m t cs = some (d, p) →
    ∃ x : Den τ, DRep W (fun q => q < W.heap.size) τ x cs ∧ ∀ y, (undat τ).1 d = some y → x = y
  | 0, _, _, _, _, _, _, h, _ => by simp [fitB] at h
  | n + 1, m, t, τ, cs, d, p, h, ht => by
    unfold fitB at h
    split at h
    · rename_i k hk
      cases τ with
      | int k' =>
        simp only [decide_eq_true_eq] at h
        subst h
        obtain ⟨v, hv, hx, hw⟩ := DataW.trod_int hk ht
        simp only [Prod.mk.injEq] at hx
        refine ⟨v, ⟨hv, wf_int hw⟩, fun y hy => ?_⟩
        rw [hx.1] at hy
        simp only [undat, if_true] at hy
        exact Option.some.inj hy
      | _ => cases h
    · rename_i hk
      cases τ with
      | bool =>
        obtain ⟨v, hv, hx⟩ := DataW.trod_bool hk ht
        simp only [Prod.mk.injEq] at hx
        refine ⟨v, hv, fun y hy => ?_⟩
        rw [hx.1] at hy
        simp only [undat] at hy
        exact Option.some.inj hy
      | _ => cases h
    · rename_i e hk
      cases τ with
      | slice σ =>
        simp only [Bool.and_eq_true, beq_iff_eq, decide_eq_true_eq] at h
        obtain ⟨⟨hc, hpos⟩, hf⟩ := h
        rcases DataW.trod_slice hk ht with ⟨hcs, hx⟩ | ⟨a, len, cap, elems, rest, m', rfl, hcs, hx, hb, hlc, hcap, hlen, hel, _⟩
        · exact ⟨[], ⟨none, 0, hcs, Nat.le_refl _, by decide, fun h => absurd rfl h⟩, fun y hy => by simp [undat] at hy⟩
        · have each : ∀ i, i < len → ∃ x : Den σ, ∃ ds, W.cells? 0 (a.add (i * P.cellsOf e)) (P.cellsOf e) = some ds ∧ DRep W (fun q => q < W.heap.size) σ x ds := fun i hi => by
            have := hel i hi
            rw [List.getElem?_eq_getElem (by omega), Option.bind_eq_some_iff] at this
            obtain ⟨ds, h1, h2⟩ := this
            obtain ⟨x, hx, _⟩ := fit_ok n m' e σ ds (elems[i]'(by omega)).1 (elems[i]'(by omega)).2 hf h2
            exact ⟨x, ds, h1, hx⟩
          obtain ⟨xs, hxl, hxs⟩ := choose_list len each
          refine ⟨xs, ⟨some a, cap, by rw [hxl]; exact hcs, by omega, by unfold lim; unfold maxLen at hcap; omega, fun hne => ?_⟩, fun y hy => by simp [undat] at hy⟩
          have h0 : 0 < xs.length := List.length_pos_iff.2 hne
          obtain ⟨ds0, hd0, _⟩ := hxs 0 xs[0] (List.getElem?_eq_getElem h0)
          obtain ⟨_, hl0, hc0⟩ := World.cells?_some hd0
          have hz : a.add (0 * P.cellsOf e) = a := by simp [Addr.add]
          have hz' : a.add 0 = a := by simp [Addr.add]
          rw [hz] at hc0
          have hc00 := hc0 0 (by omega)
          rw [hz', List.getElem?_eq_getElem (by omega)] at hc00
          unfold World.cell? at hc00
          split at hc00
          · rename_i c T fz hheap
            split at hc00
            · cases hc00
            · rename_i hspot
              have hs : a.spot = none := by simpa using hspot
              have hadd : ∀ q, a.add q = ⟨a.block, a.off + q, none⟩ := fun q => by
                unfold Addr.add
                split
                · subst_vars; cases a; simp at hs; simp [hs]
                · rfl
              have ha : a = ⟨a.block, a.off, none⟩ := by cases a; simp at hs; simp [hs]
              refine ⟨a.block, a.off, c, T, fz, by rw [← ha], ?_, hheap, fun i x hi => ?_⟩
              · exact (Array.getElem?_eq_some_iff.1 hheap).1
              · obtain ⟨ds, hd, hr⟩ := hxs i x hi
                refine ⟨ds, hr, fun j v hj => ?_⟩
                obtain ⟨_, hl, hcj⟩ := World.cells?_some hd
                have hjl : j < P.cellsOf e := by rw [← hl]; exact (List.getElem?_eq_some_iff.1 hj).1
                have := hcj j hjl
                rw [hadd, hj] at this
                have hadd2 : (⟨a.block, a.off + i * P.cellsOf e, none⟩ : Addr).add j = ⟨a.block, a.off + i * P.cellsOf e + j, none⟩ := by
                  unfold Addr.add
                  split
                  · subst_vars; rfl
                  · rfl
                rw [hadd2] at this
                unfold World.cell? at this
                simp only [hheap] at this
                rw [hc] at this
                exact this
          · cases hc00
      | _ => cases h
    · rename_i fs hk
      simp only [Bool.and_eq_true, beq_iff_eq] at h
      obtain ⟨hc, hf⟩ := h
      obtain ⟨xs, m', rfl, hx, hl, hxl, hel⟩ := DataW.trod_struct hk ht
      simp only [Prod.mk.injEq] at hx
      obtain ⟨x, h1, h2⟩ := fitF_ok (fun t τ cs d p => fit_ok n m' t τ cs d p) fs.toList 0 τ xs hf (by simpa using hxl) (by rw [hl, hc]; omega) fun i f hi => hel i f (by simpa using hi)
      refine ⟨x, by simpa using h1, fun y hy => h2 y ?_⟩
      rw [hx.1] at hy
      cases τ with
      | pair a b => exact hy
      | unit =>
        simp only [undat] at hy ⊢
        split at hy
        · rename_i e; simp only [DataW.agg.injEq] at e; rw [e]
        · cases hy
      | _ => simp [undat] at hy
    · cases h
end
end Vx
namespace Vx
open Go Go.RowKit Go.ChangeShapes Go.WideShapes
def isStruct (P : Program) (t : TypeId) : Bool := match P.underlying t with
  | some (.struct _) => true
  | _ => false
def fitS (P : Program) (n : Nat) : List TypeId → Sig → Bool
  | [], [] => true
  | t :: ts, (a, τ) :: r => fitB P n t τ && (a == isStruct P t) && fitS P n ts r
  | _, _ => false
section
variable {H : Type} {enc : TypeId × Value → H} {P : Program} {W : World}
theorem cells_one {n : Nat} {t : TypeId} {τ : Shape} {r : Reach} {b0 : Nat} {v : Value} (hf : fitB P n t τ = true) (hs : isStruct P t = false) (hv : Value.okWide P W r b0 t v) : v.cells.toList = [v] := by
  cases n with
  | zero => simp [fitB] at hf
  | succ n =>
    unfold fitB at hf
    split at hf
    · rename_i k hk; obtain ⟨_, rfl⟩ := okWide_int hk hv; rfl
    · rename_i hk; obtain ⟨_, rfl⟩ := okWide_bool hk hv; rfl
    · rename_i e hk; obtain ⟨_, _, _, rfl⟩ := okWide_slice hk hv; rfl
    · rename_i fs hk; simp [isStruct, hk] at hs
    · cases hf
theorem erep_plain {S : Nat → Prop} {a : Bool} {τ : Shape} {x : Den τ} {y : Value} (ho : ownE a τ = false) (h : PRep W S a τ x y) : ERep W S a τ x y [] := by
  cases τ with
  | slice e =>
    cases a with
    | true => cases ho
    | false => exact ⟨rfl, h⟩
  | _ => exact ⟨rfl, h⟩
theorem args_ok {n : Nat} {sp : Nat → Bool} {held : Bool} {b0 : Nat} : ∀ (ts : List TypeId) (I : Sig) (vs : List Value) (ds : List (DataW H)) (ps : List MemPlace), fitS P n ts I = true →
    (∀ (j : Nat) (t : TypeId) (v : Value), ts[j]? = some t → vs[j]? = some v → Value.okWide P W .any b0 t v) → DataW.TrodAll enc P W 0 sp held ts vs ds ps → ∃ x : DenS I, SRep W (fun q => q < W.heap.size) I x vs [] ∧ wfS I x ∧ ds.length = ts.length
  | [], [], vs, ds, ps, _, _, h => by
    cases vs <;> cases ds <;> simp [DataW.TrodAll] at h
    exact ⟨(), ⟨rfl, rfl⟩, trivial, rfl⟩
  | [], _ :: _, _, _, _, hf, _, _ => by simp [fitS] at hf
  | _ :: _, [], _, _, _, hf, _, _ => by simp [fitS] at hf
  | t :: ts, (a, τ) :: I, vs, ds, ps, hf, hv, h => by
    cases vs with
    | nil => simp [DataW.TrodAll] at h
    | cons v vs =>
      cases ds with
      | nil => simp [DataW.TrodAll] at h
      | cons d ds =>
        obtain ⟨p, q, ⟨m, hp⟩, hq, _⟩ := h
        simp only [fitS, Bool.and_eq_true, beq_iff_eq] at hf
        obtain ⟨⟨h1, h2⟩, h3⟩ := hf
        obtain ⟨x, hx, hw, hl⟩ := args_ok ts I vs ds q h3 (fun j t v ht hv' => hv (j + 1) t v (by simpa using ht) (by simpa using hv')) hq
        obtain ⟨y, hy, _⟩ := fit_ok n m t τ _ d p h1 hp
        have hok := hv 0 t v rfl rfl
        refine ⟨(y, x), ⟨v, vs, [], [], rfl, rfl, erep_plain ?_ ?_, hx⟩, ⟨hy.wfD, hw⟩, by simp [hl]⟩
        · cases τ with
          | slice σ =>
            show a = false
            rw [h2]
            cases n with
            | zero => simp [fitB] at h1
            | succ n =>
              unfold fitB at h1
              unfold isStruct
              split at h1 <;> rename_i hk <;> first | (rw [hk]; done) | (simp only [hk]; done) | (simp [fitF] at h1; done) | skip
          | _ => rfl
        cases a with
        | true =>
          have hs : isStruct P t = true := h2.symm
          unfold isStruct at hs
          split at hs
          · rename_i fs hk
            unfold Value.okWide at hok
            rw [hk] at hok
            obtain ⟨cs, rfl, _⟩ := hok
            exact ⟨cs.toList, by simp, hy⟩
          · cases hs
        | false =>
          have hs : isStruct P t = false := h2.symm
          rw [cells_one h1 hs hok] at hy
          exact hy
theorem trodAll_below (hl : laidOutB P = true) {W' : World} (hb : Below W.heap.size W W') : ∀ (ts : List TypeId) (vs : List Value) (ds : List (DataW H)) (ps : List MemPlace), (ts.all fun t => P.readableRec t && decide (t < P.types.size)) = true →
    DataW.TrodAll enc P W 0 (fun _ => true) true ts vs ds ps → (∀ x ∈ ps, x.block < W.heap.size) → DataW.TrodAll enc P W' 0 (fun b => decide (b < W.heap.size)) true ts vs ds ps
  | [], vs, ds, ps, _, h, _ => by
    cases vs <;> cases ds <;> simp [DataW.TrodAll] at h ⊢
    exact h
  | t :: ts, vs, ds, ps, hr, h, hlt => by
    cases vs with
    | nil => simp [DataW.TrodAll] at h
    | cons v vs =>
      cases ds with
      | nil => simp [DataW.TrodAll] at h
      | cons d ds =>
        obtain ⟨p, q, hp, hq, rfl⟩ := h
        simp only [List.all_cons, Bool.and_eq_true, decide_eq_true_eq] at hr
        exact ⟨p, q, Below.trod hl hr.1.1 hr.1.2 hp hb (fun x hx => hlt x (List.mem_append.2 (.inl hx))),
          trodAll_below hl hb ts vs ds q hr.2 hq (fun x hx => hlt x (List.mem_append.2 (.inr hx))), rfl⟩
/-- a table that is laid -/
theorem glob_of {n : String} {g : Nat} {t e : TypeId} {m k : Nat} {τ : Shape} {ds : List (DataW Unit)} {xs : List (Den τ)} {r : List (String × DataW Unit)} {ps : List MemPlace}
    (hL : DataW.LaidVars P W ((n, .agg ds) :: r) ps) (hg : P.globalNamed n = some g) (ht : (P.globals[g]?).map (·.type) = some t) (hu : P.underlying t = some (.array m e)) (hc : P.cellsOf e = τ.width) (hf : fitB P k e τ = true)
    (hx : ds.map (undat τ).1 = xs.map some) :
    (g < W.heap.size ∧ ∃ vs T fz, W.heap[g]? = some (.cells vs T fz) ∧ Rows W (fun q => q < W.heap.size) τ vs 0 xs) ∧ ∃ ps', DataW.LaidVars P W r ps' := by
  obtain ⟨g', t', cs, fuel, p, q, h1, h2, h3, h4, h5, _⟩ := hL
  rw [hg] at h1; cases h1
  rw [ht] at h2; cases h2
  refine ⟨?_, q, h5⟩
  unfold World.var? at h3
  rw [hg] at h3
  simp only [Option.bind_some] at h3
  split at h3
  · rename_i c T fz hh
    cases h3
    refine ⟨(Array.getElem?_eq_some_iff.1 hh).1, cs, T, fz, hh, ?_⟩
    obtain ⟨ys, m', rfl, hy, hl, hyl, hel⟩ := DataW.trod_array hu h4
    simp only [Prod.mk.injEq, DataW.agg.injEq] at hy
    intro i x hi
    have hxl : xs.length = m := by
      have := congrArg List.length hx
      simp [hy.1, hyl] at this
      omega
    have him : i < m := by rw [← hxl]; exact (List.getElem?_eq_some_iff.1 hi).1
    have he := hel i him
    have hyi : ys[i]? = some (ys[i]'(by omega)) := List.getElem?_eq_getElem (by omega)
    rw [hyi, hc] at he
    obtain ⟨x', h6, h7⟩ := fit_ok k m' e τ _ _ _ hf he
    have hd : (undat τ).1 (ys[i]'(by omega)).1 = some x := by
      have := congrArg (·[i]?) hx
      simp only [List.getElem?_map, hy.1, hyi, hi, Option.map_some] at this
      exact Option.some.inj this
    have := h7 x hd
    subst this
    refine ⟨_, h6, fun j v hj => ?_⟩
    rw [List.getElem?_take] at hj
    split at hj
    · rw [List.getElem?_drop] at hj
      simpa using hj
    · cases hj
  · cases h3
theorem returns_true {G : List (Nat × Sigma fun τ => List (Den τ))} {f : FuncId} {I : Sig} {T : DenS I → Option (DenS [(false, .bool)])} {d : DenS [(false, .bool)]} (hS : Sound P G f (sumOf I [(false, .bool)] T d)) {x : DenS I} (hT : T x = some (true, ())) (hcal : ∃ fn, P.funcs[f]? = some fn ∧ fn.body.isNone = false ∧ (fn.name == "runtime.NumGoroutine") = false) {W : World} {args : Array Value}
    (hG : GlobsOk G W fun q => q < W.heap.size) (ha : SRep W (fun q => q < W.heap.size) I x args.toList []) : Calls P f args W fun e W' => e = .returned (.bool true) ∧ Below W.heap.size W W' := by
  have := hS.calls x (by show (T x).isSome = true; rw [hT]; rfl) W (fun q => q < W.heap.size) args.toList [] (fun q h => h) hG ha List.nodup_nil (fun r h => by simp at h)
  rw [Array.toArray_toList] at this
  have this := this.resolve_right (fun ⟨v, hv, _⟩ => by rw [run_callFunc hcal] at hv; cases hv)
  refine this.2.mono fun e W' ⟨zs, rs', he, hb, _, _, hz⟩ => ⟨?_, ⟨hb.os, hb.tape, hb.output, hb.size, fun k hk => hb.block k hk (fun h => by simp at h)⟩⟩
  obtain ⟨y, ys, r1, r2, rfl, _, ⟨_, h1⟩, rfl, _⟩ := hz
  have h2 : [y] = [Value.bool ((T x).getD d).1] := h1
  rw [hT] at h2
  cases h2
  exact he
/-- what a law's row asks -/
theorem law_post {G : List (Nat × Sigma fun τ => List (Den τ))} {f : FuncId} {fn : Func} {I : Sig} {T : DenS I → Option (DenS [(false, .bool)])} {d : DenS [(false, .bool)]} {s : ChangeSpec} {n : Nat} {tb : TypeId}
    (hS : Sound P G f (sumOf I [(false, .bool)] T d)) (hT : ∀ x, wfS I x → T x = some (true, ())) (hcal : ∃ fn, P.funcs[f]? = some fn ∧ fn.body.isNone = false ∧ (fn.name == "runtime.NumGoroutine") = false) (hlay : laidOutB P = true) (hfit : fitS P n fn.params.toList I = true)
    (hread : (fn.params.toList.all fun t => P.readableRec t && decide (t < P.types.size)) = true) (hres : fn.resultTypes = #[tb]) (hbool : P.underlying tb = some .bool) (hvars : s.vars = [])
    (hspec : ∀ ds : List (DataW H), ds.length = fn.params.toList.length → s.fn H ds = { results := [.lit (.bool true)], args := ds })
    {W : World} {base : Nat} {args : Array Value} {ds gs : List (DataW H)} {before : List MemPlace}
    (hval : ∀ (j : Nat) (t : TypeId) (v : Value), fn.params[j]? = some t → args[j]? = some v → Value.okWide P W .any base t v)
    (hW : DataW.Whole enc P fn.params.toList s.vars false W args.toList ds gs before) (hG : GlobsOk G W fun q => q < W.heap.size) :
    Calls P f args W fun e W' => ∃ v, e = .returned v ∧ ChangeSpec.post enc P fn s false true false false W args v W' := by
  have hW' := hW
  obtain ⟨p, q, hA, hV, rfl, _, _⟩ := hW
  rw [hvars] at hV
  obtain ⟨rfl, rfl⟩ := trodVars_none hV
  obtain ⟨x, hx, hw, hlen⟩ := args_ok (b0 := base) fn.params.toList I args.toList ds p hfit (fun j t v ht hv => hval j t v (by simpa using ht) (by simpa using hv)) hA
  refine (returns_true hS (hT x hw) hcal hG hx).mono fun e W' ⟨he, hb⟩ => ⟨.bool true, he, ds, [], p ++ [], [], p, [], hW', ?_, ?_, ?_, hb.frame _, fun h => by cases h⟩
  · rw [List.append_nil, hspec ds hlen, hres]
    exact trodAll_mk1 (shut_bool hbool true)
  · rw [List.append_nil, hspec ds hlen]
    exact trodAll_below hlay hb _ _ _ _ hread hA fun y hy => by simpa using hW'.lt y (by simpa using hy)
  · rw [List.append_nil, hspec ds hlen, hvars]
    rfl
end
theorem globs_nil {W : World} {S : Nat → Prop} : GlobsOk [] W S := fun _ _ _ h => by simp [findGlob] at h
theorem globs_cons {W : World} {S : Nat → Prop} {g : Nat} {τ : Shape} {xs : List (Den τ)} {G : List (Nat × Sigma fun τ => List (Den τ))} (h : S g ∧ ∃ vs T fz, W.heap[g]? = some (.cells vs T fz) ∧ Rows W S τ vs 0 xs) (r : GlobsOk G W S) :
    GlobsOk ((g, ⟨τ, xs⟩) :: G) W S := fun g' τ' xs' hf => by
  simp only [findGlob] at hf
  cases hb : Nat.beq g g' with
  | true =>
    have := Nat.eq_of_beq_eq_true hb
    subst this
    rw [hb] at hf
    simp only [cond_true, Option.some.injEq] at hf
    cases hf
    exact h
  | false =>
    rw [hb] at hf
    exact r g' τ' xs' hf
end Vx
