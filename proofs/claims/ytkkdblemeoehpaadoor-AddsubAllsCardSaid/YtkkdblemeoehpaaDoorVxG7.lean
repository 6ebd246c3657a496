/- Part 7 of the proof. What is proved: symbolic execution of the functions, proved sound; what each function of the program computes, and that every run ends with it; what these functions compute, in plain numbers. Conditions: each theorem bears its own. -/
import Derived.Test.YtkkdblemeoehpaaDoorVxG6
import Derived.ProofKit
import Derived.LaidMore
import Derived.OpenShut
import Derived.Stop.Joined
import GoSem.ClaimJoined
set_option linter.all false
set_option exponentiation.threshold 1000000
namespace VL
open Go Vx
theorem cls_more {r k s ρ : Nat} (hρ : 0 < ρ) (hρ2 : ρ < 2 ^ k) (hs : 1 ≤ s) : clsR (ρ + 2 ^ k * r) (k + s) = clsR r s / 2 * 2 + 1 := by
  unfold clsR
  have hp : 2 ^ (k + s - 1) = 2 ^ k * 2 ^ (s - 1) := by rw [← Nat.pow_add]; congr 1; omega
  rw [hp]
  have hh := Nat.two_pow_pos (s - 1)
  generalize 2 ^ (s - 1) = h at *
  generalize 2 ^ k = K at *
  rw [if_neg (by omega)]
  rcases Nat.lt_trichotomy r h with h1 | h1 | h1
  · have : K * (r + 1) ≤ K * h := Nat.mul_le_mul_left _ h1
    rw [Nat.mul_add, Nat.mul_one] at this
    rw [if_pos (by omega)]
    by_cases hr : r = 0
    · rw [if_pos hr]
    · rw [if_neg hr, if_pos h1]
  · subst h1
    rw [if_neg (by omega), if_neg (by omega), if_neg (by omega), if_neg (by omega), if_pos rfl]
  · have : K * (h + 1) ≤ K * r := Nat.mul_le_mul_left _ h1
    rw [Nat.mul_add, Nat.mul_one] at this
    rw [if_neg (by omega), if_neg (by omega), if_neg (by omega), if_neg (by omega), if_neg (by omega)]
theorem cls_scale {r k s : Nat} (hs : 1 ≤ s) : clsR (2 ^ k * r) (k + s) = clsR r s := by
  unfold clsR
  have hp : 2 ^ (k + s - 1) = 2 ^ k * 2 ^ (s - 1) := by rw [← Nat.pow_add]; congr 1; omega
  rw [hp]
  have hk := Nat.two_pow_pos k
  generalize 2 ^ (s - 1) = h at *
  generalize 2 ^ k = K at *
  have h1 : K * r = 0 ↔ r = 0 := by
    constructor
    · intro h; rcases Nat.mul_eq_zero.1 h with h | h <;> omega
    · intro h; rw [h, Nat.mul_zero]
  have h2 : K * r < K * h ↔ r < h := Nat.mul_lt_mul_left hk
  have h3 : K * r = K * h ↔ r = h := Nat.mul_right_inj (by omega)
  simp only [h1, h2, h3]
theorem mod_split (N k s : Nat) : N % 2 ^ (k + s) = N % 2 ^ k + 2 ^ k * (N / 2 ^ k % 2 ^ s) := by
  rw [Nat.pow_add, Nat.mod_mul]
theorem quoE_lo {n : Nat} {e q : Int} (h : q ≤ e) : quoE n e q = n * 2 ^ (e - q).toNat := if_pos h
theorem quoE_hi {n : Nat} {e q : Int} (h : e < q) : quoE n e q = n / 2 ^ (q - e).toNat := if_neg (by omega)
theorem rstE_lo {n : Nat} {e q : Int} (h : q ≤ e) : rstE n e q = 0 := if_pos h
theorem rstE_hi {n : Nat} {e q : Int} (h : e < q) : rstE n e q = clsR (n % 2 ^ (q - e).toNat) (q - e).toNat := if_neg (by omega)
theorem cutR_f (n : Nat) (e q : Int) : cutR n e q false = rstE n e q := rfl
theorem cutR_t (n : Nat) (e q : Int) : cutR n e q true = rstE n e q / 2 * 2 + 1 := rfl
/-- with a part cut away, and the mark that there was one -/
theorem cut_trunc {N k : Nat} {E q : Int} (hq : N % 2 ^ k ≠ 0 → E + k < q) :
    quoE (N / 2 ^ k) (E + k) q = quoE N E q ∧ cutR (N / 2 ^ k) (E + k) q (decide (N % 2 ^ k ≠ 0)) = cutR N E q false := by
  have hk := Nat.two_pow_pos k
  have hdm := Nat.div_add_mod N (2 ^ k)
  by_cases h1 : E + k < q
  · have es : (q - E).toNat = k + (q - (E + k)).toNat := by omega
    have hs : 1 ≤ (q - (E + k)).toNat := by omega
    rw [quoE_hi h1, quoE_hi (by omega), cutR_f, rstE_hi (e := E) (by omega), es]
    have hrs := rstE_hi (n := N / 2 ^ k) h1
    generalize (q - (E + k)).toNat = s at *
    refine ⟨by rw [Nat.div_div_eq_div_mul, ← Nat.pow_add], ?_⟩
    rw [mod_split]
    by_cases hr : N % 2 ^ k = 0
    · rw [hr, Nat.zero_add, cls_scale hs, show decide ((0 : Nat) ≠ 0) = false by decide, cutR_f, hrs]
    · have hρ : 0 < N % 2 ^ k := by omega
      rw [cls_more hρ (Nat.mod_lt _ hk) hs, decide_eq_true hr, cutR_t, hrs]
  · have hr : N % 2 ^ k = 0 := by
      by_cases h : N % 2 ^ k = 0
      · exact h
      · exact absurd (hq h) h1
    rw [hr, Nat.add_zero] at hdm
    rw [hr]
    clear hq hr
    generalize N / 2 ^ k = n at *
    subst hdm
    have hz : decide ((0 : Nat) ≠ 0) = false := by decide
    rw [hz, quoE_lo (by omega), cutR_f, cutR_f, rstE_lo (by omega)]
    by_cases h2 : q ≤ E
    · rw [quoE_lo h2, rstE_lo h2, show (E + k - q).toNat = k + (E - q).toNat by omega, Nat.pow_add, Nat.mul_comm (2 ^ k) n, Nat.mul_assoc]
      exact ⟨rfl, rfl⟩
    · rw [quoE_hi (by omega), rstE_hi (by omega)]
      have ek : k = (q - E).toNat + (E + k - q).toNat := by omega
      generalize (q - E).toNat = s at *
      generalize (E + k - q).toNat = t at *
      have : 2 ^ k * n = 2 ^ s * (2 ^ t * n) := by rw [ek, Nat.pow_add, Nat.mul_assoc]
      rw [this, Nat.mul_div_cancel_left _ (Nat.two_pow_pos s), Nat.mul_mod_right]
      exact ⟨Nat.mul_comm _ _, rfl⟩
theorem cutN_trunc {m : Int} {neg : Bool} {N k : Nat} {E q : Int} (hq : N % 2 ^ k ≠ 0 → E + k < q) : cutN m neg (N / 2 ^ k) (E + k) q (decide (N % 2 ^ k ≠ 0)) = cutN m neg N E q false := by
  obtain ⟨h1, h2⟩ := cut_trunc hq
  unfold cutN
  rw [h1, h2]
theorem top_trunc {N k : Nat} {E : Int} (hn : N / 2 ^ k ≠ 0) : topE (N / 2 ^ k) (E + k) = topE N E := by
  have hk := Nat.two_pow_pos k
  have h1 : 2 ^ k ≤ N := by
    rcases Nat.lt_or_ge N (2 ^ k) with h | h
    · exact absurd (Nat.div_eq_of_lt h) hn
    · exact h
  have := blen_shift h1
  unfold topE
  omega
theorem rnd_trunc {f m : Int} {neg : Bool} {N k : Nat} {E : Int} (hf : Fm f) (hn : N / 2 ^ k ≠ 0) (hm : N % 2 ^ k ≠ 0 → fP f + 2 ≤ blen (N / 2 ^ k)) : rndN f m neg (N / 2 ^ k) (E + k) (decide (N % 2 ^ k ≠ 0)) = rndN f m neg N E false := by
  have ht := top_trunc (E := E) hn
  have htd : topE (N / 2 ^ k) (E + k) = E + k + (blen (N / 2 ^ k) : Int) - 1 := rfl
  have hq1 : N % 2 ^ k ≠ 0 → E + k < lowE f (topE N E) := fun h => by
    have := hm h
    unfold lowE
    split <;> omega
  have hq2 : N % 2 ^ k ≠ 0 → E + k < topE N E - fP f + 1 := fun h => by
    have := hm h
    omega
  have hti : isTiny f m neg (N / 2 ^ k) (E + k) (decide (N % 2 ^ k ≠ 0)) = isTiny f m neg N E false := by
    unfold isTiny
    rw [ht, cutN_trunc hq2]
  unfold rndN
  simp only [ht, cutN_trunc hq1, (cut_trunc hq1).2, hti]
theorem rnd_scale {f m : Int} {neg : Bool} (hf : Fm f) {n : Nat} (hn : n ≠ 0) (k : Nat) (e : Int) : rndN f m neg (n * 2 ^ k) e false = rndN f m neg n (e + k) false := by
  have hk := Nat.two_pow_pos k
  have := rnd_trunc (f := f) (m := m) (neg := neg) (N := n * 2 ^ k) (k := k) (E := e) hf (by rw [Nat.mul_div_cancel _ hk]; exact hn) (by rw [Nat.mul_mod_left]; omega)
  rw [Nat.mul_div_cancel _ hk, Nat.mul_mod_left] at this
  exact this.symm
end VL
namespace VL
open Go Vx
noncomputable def tail71 (f m : Int) (nx : Bool) (X ex : Int) (ny : Bool) (Y ey : Int) : Option (DenS O71) :=
  bif (S119.pre (((0 : Int), (X, ())), ((if ((70 : Int) < (Go.IntKind.wrap Go.IntKind.i64 (ex - ey))) then (70 : Int) else (Go.IntKind.wrap Go.IntKind.i64 (ex - ey))), ()))) then
    (bif (S120.pre (((0 : Int), (Y, ())), ((Go.IntKind.wrap Go.IntKind.i64 ((Go.IntKind.wrap Go.IntKind.i64 (ex - (if ((70 : Int) < (Go.IntKind.wrap Go.IntKind.i64 (ex - ey))) then (70 : Int) else (Go.IntKind.wrap Go.IntKind.i64 (ex - ey))))) - ey)), ()))) then
      (bif (S119.pre ((S120.F (((0 : Int), (Y, ())), ((Go.IntKind.wrap Go.IntKind.i64 ((Go.IntKind.wrap Go.IntKind.i64 (ex - (if ((70 : Int) < (Go.IntKind.wrap Go.IntKind.i64 (ex - ey))) then (70 : Int) else (Go.IntKind.wrap Go.IntKind.i64 (ex - ey))))) - ey)), ()))).1, ((Go.IntKind.wrap Go.IntKind.i64 ((Go.IntKind.wrap Go.IntKind.i64 (ex - (if ((70 : Int) < (Go.IntKind.wrap Go.IntKind.i64 (ex - ey))) then (70 : Int) else (Go.IntKind.wrap Go.IntKind.i64 (ex - ey))))) - ey)), ()))) then
        (bif (S120.pre (((0 : Int), (Y, ())), ((Go.IntKind.wrap Go.IntKind.i64 ((Go.IntKind.wrap Go.IntKind.i64 (ex - (if ((70 : Int) < (Go.IntKind.wrap Go.IntKind.i64 (ex - ey))) then (70 : Int) else (Go.IntKind.wrap Go.IntKind.i64 (ex - ey))))) - ey)), ()))) then
          (bif (nx == ny) then
            (bif (S121.pre ((S119.F (((0 : Int), (X, ())), ((if ((70 : Int) < (Go.IntKind.wrap Go.IntKind.i64 (ex - ey))) then (70 : Int) else (Go.IntKind.wrap Go.IntKind.i64 (ex - ey))), ()))).1, (S120.F (((0 : Int), (Y, ())), ((Go.IntKind.wrap Go.IntKind.i64 ((Go.IntKind.wrap Go.IntKind.i64 (ex - (if ((70 : Int) < (Go.IntKind.wrap Go.IntKind.i64 (ex - ey))) then (70 : Int) else (Go.IntKind.wrap Go.IntKind.i64 (ex - ey))))) - ey)), ()))))) then
              (bif (S122.pre (f, (m, (nx, ((S121.F ((S119.F (((0 : Int), (X, ())), ((if ((70 : Int) < (Go.IntKind.wrap Go.IntKind.i64 (ex - ey))) then (70 : Int) else (Go.IntKind.wrap Go.IntKind.i64 (ex - ey))), ()))).1, (S120.F (((0 : Int), (Y, ())), ((Go.IntKind.wrap Go.IntKind.i64 ((Go.IntKind.wrap Go.IntKind.i64 (ex - (if ((70 : Int) < (Go.IntKind.wrap Go.IntKind.i64 (ex - ey))) then (70 : Int) else (Go.IntKind.wrap Go.IntKind.i64 (ex - ey))))) - ey)), ()))))).1, ((Go.IntKind.wrap Go.IntKind.i64 (ex - (if ((70 : Int) < (Go.IntKind.wrap Go.IntKind.i64 (ex - ey))) then (70 : Int) else (Go.IntKind.wrap Go.IntKind.i64 (ex - ey))))), (((!(((S119.F ((S120.F (((0 : Int), (Y, ())), ((Go.IntKind.wrap Go.IntKind.i64 ((Go.IntKind.wrap Go.IntKind.i64 (ex - (if ((70 : Int) < (Go.IntKind.wrap Go.IntKind.i64 (ex - ey))) then (70 : Int) else (Go.IntKind.wrap Go.IntKind.i64 (ex - ey))))) - ey)), ()))).1, ((Go.IntKind.wrap Go.IntKind.i64 ((Go.IntKind.wrap Go.IntKind.i64 (ex - (if ((70 : Int) < (Go.IntKind.wrap Go.IntKind.i64 (ex - ey))) then (70 : Int) else (Go.IntKind.wrap Go.IntKind.i64 (ex - ey))))) - ey)), ()))).1.1 == (0 : Int)) && ((S119.F ((S120.F (((0 : Int), (Y, ())), ((Go.IntKind.wrap Go.IntKind.i64 ((Go.IntKind.wrap Go.IntKind.i64 (ex - (if ((70 : Int) < (Go.IntKind.wrap Go.IntKind.i64 (ex - ey))) then (70 : Int) else (Go.IntKind.wrap Go.IntKind.i64 (ex - ey))))) - ey)), ()))).1, ((Go.IntKind.wrap Go.IntKind.i64 ((Go.IntKind.wrap Go.IntKind.i64 (ex - (if ((70 : Int) < (Go.IntKind.wrap Go.IntKind.i64 (ex - ey))) then (70 : Int) else (Go.IntKind.wrap Go.IntKind.i64 (ex - ey))))) - ey)), ()))).1.2.1 == Y))) || ((decide ((Go.IntKind.wrap Go.IntKind.i64 ((Go.IntKind.wrap Go.IntKind.i64 (ex - (if ((70 : Int) < (Go.IntKind.wrap Go.IntKind.i64 (ex - ey))) then (70 : Int) else (Go.IntKind.wrap Go.IntKind.i64 (ex - ey))))) - ey)) > (63 : Int))) && (Y != (0 : Int)))), ()))))))) then
                (some (S122.F (f, (m, (nx, ((S121.F ((S119.F (((0 : Int), (X, ())), ((if ((70 : Int) < (Go.IntKind.wrap Go.IntKind.i64 (ex - ey))) then (70 : Int) else (Go.IntKind.wrap Go.IntKind.i64 (ex - ey))), ()))).1, (S120.F (((0 : Int), (Y, ())), ((Go.IntKind.wrap Go.IntKind.i64 ((Go.IntKind.wrap Go.IntKind.i64 (ex - (if ((70 : Int) < (Go.IntKind.wrap Go.IntKind.i64 (ex - ey))) then (70 : Int) else (Go.IntKind.wrap Go.IntKind.i64 (ex - ey))))) - ey)), ()))))).1, ((Go.IntKind.wrap Go.IntKind.i64 (ex - (if ((70 : Int) < (Go.IntKind.wrap Go.IntKind.i64 (ex - ey))) then (70 : Int) else (Go.IntKind.wrap Go.IntKind.i64 (ex - ey))))), (((!(((S119.F ((S120.F (((0 : Int), (Y, ())), ((Go.IntKind.wrap Go.IntKind.i64 ((Go.IntKind.wrap Go.IntKind.i64 (ex - (if ((70 : Int) < (Go.IntKind.wrap Go.IntKind.i64 (ex - ey))) then (70 : Int) else (Go.IntKind.wrap Go.IntKind.i64 (ex - ey))))) - ey)), ()))).1, ((Go.IntKind.wrap Go.IntKind.i64 ((Go.IntKind.wrap Go.IntKind.i64 (ex - (if ((70 : Int) < (Go.IntKind.wrap Go.IntKind.i64 (ex - ey))) then (70 : Int) else (Go.IntKind.wrap Go.IntKind.i64 (ex - ey))))) - ey)), ()))).1.1 == (0 : Int)) && ((S119.F ((S120.F (((0 : Int), (Y, ())), ((Go.IntKind.wrap Go.IntKind.i64 ((Go.IntKind.wrap Go.IntKind.i64 (ex - (if ((70 : Int) < (Go.IntKind.wrap Go.IntKind.i64 (ex - ey))) then (70 : Int) else (Go.IntKind.wrap Go.IntKind.i64 (ex - ey))))) - ey)), ()))).1, ((Go.IntKind.wrap Go.IntKind.i64 ((Go.IntKind.wrap Go.IntKind.i64 (ex - (if ((70 : Int) < (Go.IntKind.wrap Go.IntKind.i64 (ex - ey))) then (70 : Int) else (Go.IntKind.wrap Go.IntKind.i64 (ex - ey))))) - ey)), ()))).1.2.1 == Y))) || ((decide ((Go.IntKind.wrap Go.IntKind.i64 ((Go.IntKind.wrap Go.IntKind.i64 (ex - (if ((70 : Int) < (Go.IntKind.wrap Go.IntKind.i64 (ex - ey))) then (70 : Int) else (Go.IntKind.wrap Go.IntKind.i64 (ex - ey))))) - ey)) > (63 : Int))) && (Y != (0 : Int)))), ()))))))))
              else none)
            else none)
          else bif (S123.pre ((S119.F (((0 : Int), (X, ())), ((if ((70 : Int) < (Go.IntKind.wrap Go.IntKind.i64 (ex - ey))) then (70 : Int) else (Go.IntKind.wrap Go.IntKind.i64 (ex - ey))), ()))).1, (S120.F (((0 : Int), (Y, ())), ((Go.IntKind.wrap Go.IntKind.i64 ((Go.IntKind.wrap Go.IntKind.i64 (ex - (if ((70 : Int) < (Go.IntKind.wrap Go.IntKind.i64 (ex - ey))) then (70 : Int) else (Go.IntKind.wrap Go.IntKind.i64 (ex - ey))))) - ey)), ()))))) then
            (bif (decide ((S123.F ((S119.F (((0 : Int), (X, ())), ((if ((70 : Int) < (Go.IntKind.wrap Go.IntKind.i64 (ex - ey))) then (70 : Int) else (Go.IntKind.wrap Go.IntKind.i64 (ex - ey))), ()))).1, (S120.F (((0 : Int), (Y, ())), ((Go.IntKind.wrap Go.IntKind.i64 ((Go.IntKind.wrap Go.IntKind.i64 (ex - (if ((70 : Int) < (Go.IntKind.wrap Go.IntKind.i64 (ex - ey))) then (70 : Int) else (Go.IntKind.wrap Go.IntKind.i64 (ex - ey))))) - ey)), ()))))).1 < (0 : Int))) then
              (bif (S124.pre ((S120.F (((0 : Int), (Y, ())), ((Go.IntKind.wrap Go.IntKind.i64 ((Go.IntKind.wrap Go.IntKind.i64 (ex - (if ((70 : Int) < (Go.IntKind.wrap Go.IntKind.i64 (ex - ey))) then (70 : Int) else (Go.IntKind.wrap Go.IntKind.i64 (ex - ey))))) - ey)), ()))).1, (S119.F (((0 : Int), (X, ())), ((if ((70 : Int) < (Go.IntKind.wrap Go.IntKind.i64 (ex - ey))) then (70 : Int) else (Go.IntKind.wrap Go.IntKind.i64 (ex - ey))), ()))))) then
                (bif ((!(((S119.F ((S120.F (((0 : Int), (Y, ())), ((Go.IntKind.wrap Go.IntKind.i64 ((Go.IntKind.wrap Go.IntKind.i64 (ex - (if ((70 : Int) < (Go.IntKind.wrap Go.IntKind.i64 (ex - ey))) then (70 : Int) else (Go.IntKind.wrap Go.IntKind.i64 (ex - ey))))) - ey)), ()))).1, ((Go.IntKind.wrap Go.IntKind.i64 ((Go.IntKind.wrap Go.IntKind.i64 (ex - (if ((70 : Int) < (Go.IntKind.wrap Go.IntKind.i64 (ex - ey))) then (70 : Int) else (Go.IntKind.wrap Go.IntKind.i64 (ex - ey))))) - ey)), ()))).1.1 == (0 : Int)) && ((S119.F ((S120.F (((0 : Int), (Y, ())), ((Go.IntKind.wrap Go.IntKind.i64 ((Go.IntKind.wrap Go.IntKind.i64 (ex - (if ((70 : Int) < (Go.IntKind.wrap Go.IntKind.i64 (ex - ey))) then (70 : Int) else (Go.IntKind.wrap Go.IntKind.i64 (ex - ey))))) - ey)), ()))).1, ((Go.IntKind.wrap Go.IntKind.i64 ((Go.IntKind.wrap Go.IntKind.i64 (ex - (if ((70 : Int) < (Go.IntKind.wrap Go.IntKind.i64 (ex - ey))) then (70 : Int) else (Go.IntKind.wrap Go.IntKind.i64 (ex - ey))))) - ey)), ()))).1.2.1 == Y))) || ((decide ((Go.IntKind.wrap Go.IntKind.i64 ((Go.IntKind.wrap Go.IntKind.i64 (ex - (if ((70 : Int) < (Go.IntKind.wrap Go.IntKind.i64 (ex - ey))) then (70 : Int) else (Go.IntKind.wrap Go.IntKind.i64 (ex - ey))))) - ey)) > (63 : Int))) && (Y != (0 : Int)))) then
                  (bif (S124.pre ((S124.F ((S120.F (((0 : Int), (Y, ())), ((Go.IntKind.wrap Go.IntKind.i64 ((Go.IntKind.wrap Go.IntKind.i64 (ex - (if ((70 : Int) < (Go.IntKind.wrap Go.IntKind.i64 (ex - ey))) then (70 : Int) else (Go.IntKind.wrap Go.IntKind.i64 (ex - ey))))) - ey)), ()))).1, (S119.F (((0 : Int), (X, ())), ((if ((70 : Int) < (Go.IntKind.wrap Go.IntKind.i64 (ex - ey))) then (70 : Int) else (Go.IntKind.wrap Go.IntKind.i64 (ex - ey))), ()))))).1, (((0 : Int), ((1 : Int), ())), ()))) then
                    (bif ((((S124.F ((S124.F ((S120.F (((0 : Int), (Y, ())), ((Go.IntKind.wrap Go.IntKind.i64 ((Go.IntKind.wrap Go.IntKind.i64 (ex - (if ((70 : Int) < (Go.IntKind.wrap Go.IntKind.i64 (ex - ey))) then (70 : Int) else (Go.IntKind.wrap Go.IntKind.i64 (ex - ey))))) - ey)), ()))).1, (S119.F (((0 : Int), (X, ())), ((if ((70 : Int) < (Go.IntKind.wrap Go.IntKind.i64 (ex - ey))) then (70 : Int) else (Go.IntKind.wrap Go.IntKind.i64 (ex - ey))), ()))))).1, (((0 : Int), ((1 : Int), ())), ()))).1.1 == (0 : Int)) && ((S124.F ((S124.F ((S120.F (((0 : Int), (Y, ())), ((Go.IntKind.wrap Go.IntKind.i64 ((Go.IntKind.wrap Go.IntKind.i64 (ex - (if ((70 : Int) < (Go.IntKind.wrap Go.IntKind.i64 (ex - ey))) then (70 : Int) else (Go.IntKind.wrap Go.IntKind.i64 (ex - ey))))) - ey)), ()))).1, (S119.F (((0 : Int), (X, ())), ((if ((70 : Int) < (Go.IntKind.wrap Go.IntKind.i64 (ex - ey))) then (70 : Int) else (Go.IntKind.wrap Go.IntKind.i64 (ex - ey))), ()))))).1, (((0 : Int), ((1 : Int), ())), ()))).1.2.1 == (0 : Int))) && (!((!(((S119.F ((S120.F (((0 : Int), (Y, ())), ((Go.IntKind.wrap Go.IntKind.i64 ((Go.IntKind.wrap Go.IntKind.i64 (ex - (if ((70 : Int) < (Go.IntKind.wrap Go.IntKind.i64 (ex - ey))) then (70 : Int) else (Go.IntKind.wrap Go.IntKind.i64 (ex - ey))))) - ey)), ()))).1, ((Go.IntKind.wrap Go.IntKind.i64 ((Go.IntKind.wrap Go.IntKind.i64 (ex - (if ((70 : Int) < (Go.IntKind.wrap Go.IntKind.i64 (ex - ey))) then (70 : Int) else (Go.IntKind.wrap Go.IntKind.i64 (ex - ey))))) - ey)), ()))).1.1 == (0 : Int)) && ((S119.F ((S120.F (((0 : Int), (Y, ())), ((Go.IntKind.wrap Go.IntKind.i64 ((Go.IntKind.wrap Go.IntKind.i64 (ex - (if ((70 : Int) < (Go.IntKind.wrap Go.IntKind.i64 (ex - ey))) then (70 : Int) else (Go.IntKind.wrap Go.IntKind.i64 (ex - ey))))) - ey)), ()))).1, ((Go.IntKind.wrap Go.IntKind.i64 ((Go.IntKind.wrap Go.IntKind.i64 (ex - (if ((70 : Int) < (Go.IntKind.wrap Go.IntKind.i64 (ex - ey))) then (70 : Int) else (Go.IntKind.wrap Go.IntKind.i64 (ex - ey))))) - ey)), ()))).1.2.1 == Y))) || ((decide ((Go.IntKind.wrap Go.IntKind.i64 ((Go.IntKind.wrap Go.IntKind.i64 (ex - (if ((70 : Int) < (Go.IntKind.wrap Go.IntKind.i64 (ex - ey))) then (70 : Int) else (Go.IntKind.wrap Go.IntKind.i64 (ex - ey))))) - ey)) > (63 : Int))) && (Y != (0 : Int)))))) then
                      (bif (S118.pre (f, ((m == (4 : Int)), ()))) then
                        (some ((S118.F (f, ((m == (4 : Int)), ()))).1, ((0 : Int), ((0 : Int), ()))))
                      else none)
                    else bif (S122.pre (f, (m, (ny, ((S124.F ((S124.F ((S120.F (((0 : Int), (Y, ())), ((Go.IntKind.wrap Go.IntKind.i64 ((Go.IntKind.wrap Go.IntKind.i64 (ex - (if ((70 : Int) < (Go.IntKind.wrap Go.IntKind.i64 (ex - ey))) then (70 : Int) else (Go.IntKind.wrap Go.IntKind.i64 (ex - ey))))) - ey)), ()))).1, (S119.F (((0 : Int), (X, ())), ((if ((70 : Int) < (Go.IntKind.wrap Go.IntKind.i64 (ex - ey))) then (70 : Int) else (Go.IntKind.wrap Go.IntKind.i64 (ex - ey))), ()))))).1, (((0 : Int), ((1 : Int), ())), ()))).1, ((Go.IntKind.wrap Go.IntKind.i64 (ex - (if ((70 : Int) < (Go.IntKind.wrap Go.IntKind.i64 (ex - ey))) then (70 : Int) else (Go.IntKind.wrap Go.IntKind.i64 (ex - ey))))), (((!(((S119.F ((S120.F (((0 : Int), (Y, ())), ((Go.IntKind.wrap Go.IntKind.i64 ((Go.IntKind.wrap Go.IntKind.i64 (ex - (if ((70 : Int) < (Go.IntKind.wrap Go.IntKind.i64 (ex - ey))) then (70 : Int) else (Go.IntKind.wrap Go.IntKind.i64 (ex - ey))))) - ey)), ()))).1, ((Go.IntKind.wrap Go.IntKind.i64 ((Go.IntKind.wrap Go.IntKind.i64 (ex - (if ((70 : Int) < (Go.IntKind.wrap Go.IntKind.i64 (ex - ey))) then (70 : Int) else (Go.IntKind.wrap Go.IntKind.i64 (ex - ey))))) - ey)), ()))).1.1 == (0 : Int)) && ((S119.F ((S120.F (((0 : Int), (Y, ())), ((Go.IntKind.wrap Go.IntKind.i64 ((Go.IntKind.wrap Go.IntKind.i64 (ex - (if ((70 : Int) < (Go.IntKind.wrap Go.IntKind.i64 (ex - ey))) then (70 : Int) else (Go.IntKind.wrap Go.IntKind.i64 (ex - ey))))) - ey)), ()))).1, ((Go.IntKind.wrap Go.IntKind.i64 ((Go.IntKind.wrap Go.IntKind.i64 (ex - (if ((70 : Int) < (Go.IntKind.wrap Go.IntKind.i64 (ex - ey))) then (70 : Int) else (Go.IntKind.wrap Go.IntKind.i64 (ex - ey))))) - ey)), ()))).1.2.1 == Y))) || ((decide ((Go.IntKind.wrap Go.IntKind.i64 ((Go.IntKind.wrap Go.IntKind.i64 (ex - (if ((70 : Int) < (Go.IntKind.wrap Go.IntKind.i64 (ex - ey))) then (70 : Int) else (Go.IntKind.wrap Go.IntKind.i64 (ex - ey))))) - ey)) > (63 : Int))) && (Y != (0 : Int)))), ()))))))) then
                      (some (S122.F (f, (m, (ny, ((S124.F ((S124.F ((S120.F (((0 : Int), (Y, ())), ((Go.IntKind.wrap Go.IntKind.i64 ((Go.IntKind.wrap Go.IntKind.i64 (ex - (if ((70 : Int) < (Go.IntKind.wrap Go.IntKind.i64 (ex - ey))) then (70 : Int) else (Go.IntKind.wrap Go.IntKind.i64 (ex - ey))))) - ey)), ()))).1, (S119.F (((0 : Int), (X, ())), ((if ((70 : Int) < (Go.IntKind.wrap Go.IntKind.i64 (ex - ey))) then (70 : Int) else (Go.IntKind.wrap Go.IntKind.i64 (ex - ey))), ()))))).1, (((0 : Int), ((1 : Int), ())), ()))).1, ((Go.IntKind.wrap Go.IntKind.i64 (ex - (if ((70 : Int) < (Go.IntKind.wrap Go.IntKind.i64 (ex - ey))) then (70 : Int) else (Go.IntKind.wrap Go.IntKind.i64 (ex - ey))))), (((!(((S119.F ((S120.F (((0 : Int), (Y, ())), ((Go.IntKind.wrap Go.IntKind.i64 ((Go.IntKind.wrap Go.IntKind.i64 (ex - (if ((70 : Int) < (Go.IntKind.wrap Go.IntKind.i64 (ex - ey))) then (70 : Int) else (Go.IntKind.wrap Go.IntKind.i64 (ex - ey))))) - ey)), ()))).1, ((Go.IntKind.wrap Go.IntKind.i64 ((Go.IntKind.wrap Go.IntKind.i64 (ex - (if ((70 : Int) < (Go.IntKind.wrap Go.IntKind.i64 (ex - ey))) then (70 : Int) else (Go.IntKind.wrap Go.IntKind.i64 (ex - ey))))) - ey)), ()))).1.1 == (0 : Int)) && ((S119.F ((S120.F (((0 : Int), (Y, ())), ((Go.IntKind.wrap Go.IntKind.i64 ((Go.IntKind.wrap Go.IntKind.i64 (ex - (if ((70 : Int) < (Go.IntKind.wrap Go.IntKind.i64 (ex - ey))) then (70 : Int) else (Go.IntKind.wrap Go.IntKind.i64 (ex - ey))))) - ey)), ()))).1, ((Go.IntKind.wrap Go.IntKind.i64 ((Go.IntKind.wrap Go.IntKind.i64 (ex - (if ((70 : Int) < (Go.IntKind.wrap Go.IntKind.i64 (ex - ey))) then (70 : Int) else (Go.IntKind.wrap Go.IntKind.i64 (ex - ey))))) - ey)), ()))).1.2.1 == Y))) || ((decide ((Go.IntKind.wrap Go.IntKind.i64 ((Go.IntKind.wrap Go.IntKind.i64 (ex - (if ((70 : Int) < (Go.IntKind.wrap Go.IntKind.i64 (ex - ey))) then (70 : Int) else (Go.IntKind.wrap Go.IntKind.i64 (ex - ey))))) - ey)) > (63 : Int))) && (Y != (0 : Int)))), ()))))))))
                    else none)
                  else none)
                else bif ((((S124.F ((S120.F (((0 : Int), (Y, ())), ((Go.IntKind.wrap Go.IntKind.i64 ((Go.IntKind.wrap Go.IntKind.i64 (ex - (if ((70 : Int) < (Go.IntKind.wrap Go.IntKind.i64 (ex - ey))) then (70 : Int) else (Go.IntKind.wrap Go.IntKind.i64 (ex - ey))))) - ey)), ()))).1, (S119.F (((0 : Int), (X, ())), ((if ((70 : Int) < (Go.IntKind.wrap Go.IntKind.i64 (ex - ey))) then (70 : Int) else (Go.IntKind.wrap Go.IntKind.i64 (ex - ey))), ()))))).1.1 == (0 : Int)) && ((S124.F ((S120.F (((0 : Int), (Y, ())), ((Go.IntKind.wrap Go.IntKind.i64 ((Go.IntKind.wrap Go.IntKind.i64 (ex - (if ((70 : Int) < (Go.IntKind.wrap Go.IntKind.i64 (ex - ey))) then (70 : Int) else (Go.IntKind.wrap Go.IntKind.i64 (ex - ey))))) - ey)), ()))).1, (S119.F (((0 : Int), (X, ())), ((if ((70 : Int) < (Go.IntKind.wrap Go.IntKind.i64 (ex - ey))) then (70 : Int) else (Go.IntKind.wrap Go.IntKind.i64 (ex - ey))), ()))))).1.2.1 == (0 : Int))) && (!((!(((S119.F ((S120.F (((0 : Int), (Y, ())), ((Go.IntKind.wrap Go.IntKind.i64 ((Go.IntKind.wrap Go.IntKind.i64 (ex - (if ((70 : Int) < (Go.IntKind.wrap Go.IntKind.i64 (ex - ey))) then (70 : Int) else (Go.IntKind.wrap Go.IntKind.i64 (ex - ey))))) - ey)), ()))).1, ((Go.IntKind.wrap Go.IntKind.i64 ((Go.IntKind.wrap Go.IntKind.i64 (ex - (if ((70 : Int) < (Go.IntKind.wrap Go.IntKind.i64 (ex - ey))) then (70 : Int) else (Go.IntKind.wrap Go.IntKind.i64 (ex - ey))))) - ey)), ()))).1.1 == (0 : Int)) && ((S119.F ((S120.F (((0 : Int), (Y, ())), ((Go.IntKind.wrap Go.IntKind.i64 ((Go.IntKind.wrap Go.IntKind.i64 (ex - (if ((70 : Int) < (Go.IntKind.wrap Go.IntKind.i64 (ex - ey))) then (70 : Int) else (Go.IntKind.wrap Go.IntKind.i64 (ex - ey))))) - ey)), ()))).1, ((Go.IntKind.wrap Go.IntKind.i64 ((Go.IntKind.wrap Go.IntKind.i64 (ex - (if ((70 : Int) < (Go.IntKind.wrap Go.IntKind.i64 (ex - ey))) then (70 : Int) else (Go.IntKind.wrap Go.IntKind.i64 (ex - ey))))) - ey)), ()))).1.2.1 == Y))) || ((decide ((Go.IntKind.wrap Go.IntKind.i64 ((Go.IntKind.wrap Go.IntKind.i64 (ex - (if ((70 : Int) < (Go.IntKind.wrap Go.IntKind.i64 (ex - ey))) then (70 : Int) else (Go.IntKind.wrap Go.IntKind.i64 (ex - ey))))) - ey)) > (63 : Int))) && (Y != (0 : Int)))))) then
                  (bif (S118.pre (f, ((m == (4 : Int)), ()))) then
                    (some ((S118.F (f, ((m == (4 : Int)), ()))).1, ((0 : Int), ((0 : Int), ()))))
                  else none)
                else bif (S122.pre (f, (m, (ny, ((S124.F ((S120.F (((0 : Int), (Y, ())), ((Go.IntKind.wrap Go.IntKind.i64 ((Go.IntKind.wrap Go.IntKind.i64 (ex - (if ((70 : Int) < (Go.IntKind.wrap Go.IntKind.i64 (ex - ey))) then (70 : Int) else (Go.IntKind.wrap Go.IntKind.i64 (ex - ey))))) - ey)), ()))).1, (S119.F (((0 : Int), (X, ())), ((if ((70 : Int) < (Go.IntKind.wrap Go.IntKind.i64 (ex - ey))) then (70 : Int) else (Go.IntKind.wrap Go.IntKind.i64 (ex - ey))), ()))))).1, ((Go.IntKind.wrap Go.IntKind.i64 (ex - (if ((70 : Int) < (Go.IntKind.wrap Go.IntKind.i64 (ex - ey))) then (70 : Int) else (Go.IntKind.wrap Go.IntKind.i64 (ex - ey))))), (((!(((S119.F ((S120.F (((0 : Int), (Y, ())), ((Go.IntKind.wrap Go.IntKind.i64 ((Go.IntKind.wrap Go.IntKind.i64 (ex - (if ((70 : Int) < (Go.IntKind.wrap Go.IntKind.i64 (ex - ey))) then (70 : Int) else (Go.IntKind.wrap Go.IntKind.i64 (ex - ey))))) - ey)), ()))).1, ((Go.IntKind.wrap Go.IntKind.i64 ((Go.IntKind.wrap Go.IntKind.i64 (ex - (if ((70 : Int) < (Go.IntKind.wrap Go.IntKind.i64 (ex - ey))) then (70 : Int) else (Go.IntKind.wrap Go.IntKind.i64 (ex - ey))))) - ey)), ()))).1.1 == (0 : Int)) && ((S119.F ((S120.F (((0 : Int), (Y, ())), ((Go.IntKind.wrap Go.IntKind.i64 ((Go.IntKind.wrap Go.IntKind.i64 (ex - (if ((70 : Int) < (Go.IntKind.wrap Go.IntKind.i64 (ex - ey))) then (70 : Int) else (Go.IntKind.wrap Go.IntKind.i64 (ex - ey))))) - ey)), ()))).1, ((Go.IntKind.wrap Go.IntKind.i64 ((Go.IntKind.wrap Go.IntKind.i64 (ex - (if ((70 : Int) < (Go.IntKind.wrap Go.IntKind.i64 (ex - ey))) then (70 : Int) else (Go.IntKind.wrap Go.IntKind.i64 (ex - ey))))) - ey)), ()))).1.2.1 == Y))) || ((decide ((Go.IntKind.wrap Go.IntKind.i64 ((Go.IntKind.wrap Go.IntKind.i64 (ex - (if ((70 : Int) < (Go.IntKind.wrap Go.IntKind.i64 (ex - ey))) then (70 : Int) else (Go.IntKind.wrap Go.IntKind.i64 (ex - ey))))) - ey)) > (63 : Int))) && (Y != (0 : Int)))), ()))))))) then
                  (some (S122.F (f, (m, (ny, ((S124.F ((S120.F (((0 : Int), (Y, ())), ((Go.IntKind.wrap Go.IntKind.i64 ((Go.IntKind.wrap Go.IntKind.i64 (ex - (if ((70 : Int) < (Go.IntKind.wrap Go.IntKind.i64 (ex - ey))) then (70 : Int) else (Go.IntKind.wrap Go.IntKind.i64 (ex - ey))))) - ey)), ()))).1, (S119.F (((0 : Int), (X, ())), ((if ((70 : Int) < (Go.IntKind.wrap Go.IntKind.i64 (ex - ey))) then (70 : Int) else (Go.IntKind.wrap Go.IntKind.i64 (ex - ey))), ()))))).1, ((Go.IntKind.wrap Go.IntKind.i64 (ex - (if ((70 : Int) < (Go.IntKind.wrap Go.IntKind.i64 (ex - ey))) then (70 : Int) else (Go.IntKind.wrap Go.IntKind.i64 (ex - ey))))), (((!(((S119.F ((S120.F (((0 : Int), (Y, ())), ((Go.IntKind.wrap Go.IntKind.i64 ((Go.IntKind.wrap Go.IntKind.i64 (ex - (if ((70 : Int) < (Go.IntKind.wrap Go.IntKind.i64 (ex - ey))) then (70 : Int) else (Go.IntKind.wrap Go.IntKind.i64 (ex - ey))))) - ey)), ()))).1, ((Go.IntKind.wrap Go.IntKind.i64 ((Go.IntKind.wrap Go.IntKind.i64 (ex - (if ((70 : Int) < (Go.IntKind.wrap Go.IntKind.i64 (ex - ey))) then (70 : Int) else (Go.IntKind.wrap Go.IntKind.i64 (ex - ey))))) - ey)), ()))).1.1 == (0 : Int)) && ((S119.F ((S120.F (((0 : Int), (Y, ())), ((Go.IntKind.wrap Go.IntKind.i64 ((Go.IntKind.wrap Go.IntKind.i64 (ex - (if ((70 : Int) < (Go.IntKind.wrap Go.IntKind.i64 (ex - ey))) then (70 : Int) else (Go.IntKind.wrap Go.IntKind.i64 (ex - ey))))) - ey)), ()))).1, ((Go.IntKind.wrap Go.IntKind.i64 ((Go.IntKind.wrap Go.IntKind.i64 (ex - (if ((70 : Int) < (Go.IntKind.wrap Go.IntKind.i64 (ex - ey))) then (70 : Int) else (Go.IntKind.wrap Go.IntKind.i64 (ex - ey))))) - ey)), ()))).1.2.1 == Y))) || ((decide ((Go.IntKind.wrap Go.IntKind.i64 ((Go.IntKind.wrap Go.IntKind.i64 (ex - (if ((70 : Int) < (Go.IntKind.wrap Go.IntKind.i64 (ex - ey))) then (70 : Int) else (Go.IntKind.wrap Go.IntKind.i64 (ex - ey))))) - ey)) > (63 : Int))) && (Y != (0 : Int)))), ()))))))))
                else none)
              else none)
            else bif (S124.pre ((S119.F (((0 : Int), (X, ())), ((if ((70 : Int) < (Go.IntKind.wrap Go.IntKind.i64 (ex - ey))) then (70 : Int) else (Go.IntKind.wrap Go.IntKind.i64 (ex - ey))), ()))).1, (S120.F (((0 : Int), (Y, ())), ((Go.IntKind.wrap Go.IntKind.i64 ((Go.IntKind.wrap Go.IntKind.i64 (ex - (if ((70 : Int) < (Go.IntKind.wrap Go.IntKind.i64 (ex - ey))) then (70 : Int) else (Go.IntKind.wrap Go.IntKind.i64 (ex - ey))))) - ey)), ()))))) then
              (bif ((!(((S119.F ((S120.F (((0 : Int), (Y, ())), ((Go.IntKind.wrap Go.IntKind.i64 ((Go.IntKind.wrap Go.IntKind.i64 (ex - (if ((70 : Int) < (Go.IntKind.wrap Go.IntKind.i64 (ex - ey))) then (70 : Int) else (Go.IntKind.wrap Go.IntKind.i64 (ex - ey))))) - ey)), ()))).1, ((Go.IntKind.wrap Go.IntKind.i64 ((Go.IntKind.wrap Go.IntKind.i64 (ex - (if ((70 : Int) < (Go.IntKind.wrap Go.IntKind.i64 (ex - ey))) then (70 : Int) else (Go.IntKind.wrap Go.IntKind.i64 (ex - ey))))) - ey)), ()))).1.1 == (0 : Int)) && ((S119.F ((S120.F (((0 : Int), (Y, ())), ((Go.IntKind.wrap Go.IntKind.i64 ((Go.IntKind.wrap Go.IntKind.i64 (ex - (if ((70 : Int) < (Go.IntKind.wrap Go.IntKind.i64 (ex - ey))) then (70 : Int) else (Go.IntKind.wrap Go.IntKind.i64 (ex - ey))))) - ey)), ()))).1, ((Go.IntKind.wrap Go.IntKind.i64 ((Go.IntKind.wrap Go.IntKind.i64 (ex - (if ((70 : Int) < (Go.IntKind.wrap Go.IntKind.i64 (ex - ey))) then (70 : Int) else (Go.IntKind.wrap Go.IntKind.i64 (ex - ey))))) - ey)), ()))).1.2.1 == Y))) || ((decide ((Go.IntKind.wrap Go.IntKind.i64 ((Go.IntKind.wrap Go.IntKind.i64 (ex - (if ((70 : Int) < (Go.IntKind.wrap Go.IntKind.i64 (ex - ey))) then (70 : Int) else (Go.IntKind.wrap Go.IntKind.i64 (ex - ey))))) - ey)) > (63 : Int))) && (Y != (0 : Int)))) then
                (bif (S124.pre ((S124.F ((S119.F (((0 : Int), (X, ())), ((if ((70 : Int) < (Go.IntKind.wrap Go.IntKind.i64 (ex - ey))) then (70 : Int) else (Go.IntKind.wrap Go.IntKind.i64 (ex - ey))), ()))).1, (S120.F (((0 : Int), (Y, ())), ((Go.IntKind.wrap Go.IntKind.i64 ((Go.IntKind.wrap Go.IntKind.i64 (ex - (if ((70 : Int) < (Go.IntKind.wrap Go.IntKind.i64 (ex - ey))) then (70 : Int) else (Go.IntKind.wrap Go.IntKind.i64 (ex - ey))))) - ey)), ()))))).1, (((0 : Int), ((1 : Int), ())), ()))) then
                  (bif ((((S124.F ((S124.F ((S119.F (((0 : Int), (X, ())), ((if ((70 : Int) < (Go.IntKind.wrap Go.IntKind.i64 (ex - ey))) then (70 : Int) else (Go.IntKind.wrap Go.IntKind.i64 (ex - ey))), ()))).1, (S120.F (((0 : Int), (Y, ())), ((Go.IntKind.wrap Go.IntKind.i64 ((Go.IntKind.wrap Go.IntKind.i64 (ex - (if ((70 : Int) < (Go.IntKind.wrap Go.IntKind.i64 (ex - ey))) then (70 : Int) else (Go.IntKind.wrap Go.IntKind.i64 (ex - ey))))) - ey)), ()))))).1, (((0 : Int), ((1 : Int), ())), ()))).1.1 == (0 : Int)) && ((S124.F ((S124.F ((S119.F (((0 : Int), (X, ())), ((if ((70 : Int) < (Go.IntKind.wrap Go.IntKind.i64 (ex - ey))) then (70 : Int) else (Go.IntKind.wrap Go.IntKind.i64 (ex - ey))), ()))).1, (S120.F (((0 : Int), (Y, ())), ((Go.IntKind.wrap Go.IntKind.i64 ((Go.IntKind.wrap Go.IntKind.i64 (ex - (if ((70 : Int) < (Go.IntKind.wrap Go.IntKind.i64 (ex - ey))) then (70 : Int) else (Go.IntKind.wrap Go.IntKind.i64 (ex - ey))))) - ey)), ()))))).1, (((0 : Int), ((1 : Int), ())), ()))).1.2.1 == (0 : Int))) && (!((!(((S119.F ((S120.F (((0 : Int), (Y, ())), ((Go.IntKind.wrap Go.IntKind.i64 ((Go.IntKind.wrap Go.IntKind.i64 (ex - (if ((70 : Int) < (Go.IntKind.wrap Go.IntKind.i64 (ex - ey))) then (70 : Int) else (Go.IntKind.wrap Go.IntKind.i64 (ex - ey))))) - ey)), ()))).1, ((Go.IntKind.wrap Go.IntKind.i64 ((Go.IntKind.wrap Go.IntKind.i64 (ex - (if ((70 : Int) < (Go.IntKind.wrap Go.IntKind.i64 (ex - ey))) then (70 : Int) else (Go.IntKind.wrap Go.IntKind.i64 (ex - ey))))) - ey)), ()))).1.1 == (0 : Int)) && ((S119.F ((S120.F (((0 : Int), (Y, ())), ((Go.IntKind.wrap Go.IntKind.i64 ((Go.IntKind.wrap Go.IntKind.i64 (ex - (if ((70 : Int) < (Go.IntKind.wrap Go.IntKind.i64 (ex - ey))) then (70 : Int) else (Go.IntKind.wrap Go.IntKind.i64 (ex - ey))))) - ey)), ()))).1, ((Go.IntKind.wrap Go.IntKind.i64 ((Go.IntKind.wrap Go.IntKind.i64 (ex - (if ((70 : Int) < (Go.IntKind.wrap Go.IntKind.i64 (ex - ey))) then (70 : Int) else (Go.IntKind.wrap Go.IntKind.i64 (ex - ey))))) - ey)), ()))).1.2.1 == Y))) || ((decide ((Go.IntKind.wrap Go.IntKind.i64 ((Go.IntKind.wrap Go.IntKind.i64 (ex - (if ((70 : Int) < (Go.IntKind.wrap Go.IntKind.i64 (ex - ey))) then (70 : Int) else (Go.IntKind.wrap Go.IntKind.i64 (ex - ey))))) - ey)) > (63 : Int))) && (Y != (0 : Int)))))) then
                    (bif (S118.pre (f, ((m == (4 : Int)), ()))) then
                      (some ((S118.F (f, ((m == (4 : Int)), ()))).1, ((0 : Int), ((0 : Int), ()))))
                    else none)
                  else bif (S122.pre (f, (m, (nx, ((S124.F ((S124.F ((S119.F (((0 : Int), (X, ())), ((if ((70 : Int) < (Go.IntKind.wrap Go.IntKind.i64 (ex - ey))) then (70 : Int) else (Go.IntKind.wrap Go.IntKind.i64 (ex - ey))), ()))).1, (S120.F (((0 : Int), (Y, ())), ((Go.IntKind.wrap Go.IntKind.i64 ((Go.IntKind.wrap Go.IntKind.i64 (ex - (if ((70 : Int) < (Go.IntKind.wrap Go.IntKind.i64 (ex - ey))) then (70 : Int) else (Go.IntKind.wrap Go.IntKind.i64 (ex - ey))))) - ey)), ()))))).1, (((0 : Int), ((1 : Int), ())), ()))).1, ((Go.IntKind.wrap Go.IntKind.i64 (ex - (if ((70 : Int) < (Go.IntKind.wrap Go.IntKind.i64 (ex - ey))) then (70 : Int) else (Go.IntKind.wrap Go.IntKind.i64 (ex - ey))))), (((!(((S119.F ((S120.F (((0 : Int), (Y, ())), ((Go.IntKind.wrap Go.IntKind.i64 ((Go.IntKind.wrap Go.IntKind.i64 (ex - (if ((70 : Int) < (Go.IntKind.wrap Go.IntKind.i64 (ex - ey))) then (70 : Int) else (Go.IntKind.wrap Go.IntKind.i64 (ex - ey))))) - ey)), ()))).1, ((Go.IntKind.wrap Go.IntKind.i64 ((Go.IntKind.wrap Go.IntKind.i64 (ex - (if ((70 : Int) < (Go.IntKind.wrap Go.IntKind.i64 (ex - ey))) then (70 : Int) else (Go.IntKind.wrap Go.IntKind.i64 (ex - ey))))) - ey)), ()))).1.1 == (0 : Int)) && ((S119.F ((S120.F (((0 : Int), (Y, ())), ((Go.IntKind.wrap Go.IntKind.i64 ((Go.IntKind.wrap Go.IntKind.i64 (ex - (if ((70 : Int) < (Go.IntKind.wrap Go.IntKind.i64 (ex - ey))) then (70 : Int) else (Go.IntKind.wrap Go.IntKind.i64 (ex - ey))))) - ey)), ()))).1, ((Go.IntKind.wrap Go.IntKind.i64 ((Go.IntKind.wrap Go.IntKind.i64 (ex - (if ((70 : Int) < (Go.IntKind.wrap Go.IntKind.i64 (ex - ey))) then (70 : Int) else (Go.IntKind.wrap Go.IntKind.i64 (ex - ey))))) - ey)), ()))).1.2.1 == Y))) || ((decide ((Go.IntKind.wrap Go.IntKind.i64 ((Go.IntKind.wrap Go.IntKind.i64 (ex - (if ((70 : Int) < (Go.IntKind.wrap Go.IntKind.i64 (ex - ey))) then (70 : Int) else (Go.IntKind.wrap Go.IntKind.i64 (ex - ey))))) - ey)) > (63 : Int))) && (Y != (0 : Int)))), ()))))))) then
                    (some (S122.F (f, (m, (nx, ((S124.F ((S124.F ((S119.F (((0 : Int), (X, ())), ((if ((70 : Int) < (Go.IntKind.wrap Go.IntKind.i64 (ex - ey))) then (70 : Int) else (Go.IntKind.wrap Go.IntKind.i64 (ex - ey))), ()))).1, (S120.F (((0 : Int), (Y, ())), ((Go.IntKind.wrap Go.IntKind.i64 ((Go.IntKind.wrap Go.IntKind.i64 (ex - (if ((70 : Int) < (Go.IntKind.wrap Go.IntKind.i64 (ex - ey))) then (70 : Int) else (Go.IntKind.wrap Go.IntKind.i64 (ex - ey))))) - ey)), ()))))).1, (((0 : Int), ((1 : Int), ())), ()))).1, ((Go.IntKind.wrap Go.IntKind.i64 (ex - (if ((70 : Int) < (Go.IntKind.wrap Go.IntKind.i64 (ex - ey))) then (70 : Int) else (Go.IntKind.wrap Go.IntKind.i64 (ex - ey))))), (((!(((S119.F ((S120.F (((0 : Int), (Y, ())), ((Go.IntKind.wrap Go.IntKind.i64 ((Go.IntKind.wrap Go.IntKind.i64 (ex - (if ((70 : Int) < (Go.IntKind.wrap Go.IntKind.i64 (ex - ey))) then (70 : Int) else (Go.IntKind.wrap Go.IntKind.i64 (ex - ey))))) - ey)), ()))).1, ((Go.IntKind.wrap Go.IntKind.i64 ((Go.IntKind.wrap Go.IntKind.i64 (ex - (if ((70 : Int) < (Go.IntKind.wrap Go.IntKind.i64 (ex - ey))) then (70 : Int) else (Go.IntKind.wrap Go.IntKind.i64 (ex - ey))))) - ey)), ()))).1.1 == (0 : Int)) && ((S119.F ((S120.F (((0 : Int), (Y, ())), ((Go.IntKind.wrap Go.IntKind.i64 ((Go.IntKind.wrap Go.IntKind.i64 (ex - (if ((70 : Int) < (Go.IntKind.wrap Go.IntKind.i64 (ex - ey))) then (70 : Int) else (Go.IntKind.wrap Go.IntKind.i64 (ex - ey))))) - ey)), ()))).1, ((Go.IntKind.wrap Go.IntKind.i64 ((Go.IntKind.wrap Go.IntKind.i64 (ex - (if ((70 : Int) < (Go.IntKind.wrap Go.IntKind.i64 (ex - ey))) then (70 : Int) else (Go.IntKind.wrap Go.IntKind.i64 (ex - ey))))) - ey)), ()))).1.2.1 == Y))) || ((decide ((Go.IntKind.wrap Go.IntKind.i64 ((Go.IntKind.wrap Go.IntKind.i64 (ex - (if ((70 : Int) < (Go.IntKind.wrap Go.IntKind.i64 (ex - ey))) then (70 : Int) else (Go.IntKind.wrap Go.IntKind.i64 (ex - ey))))) - ey)) > (63 : Int))) && (Y != (0 : Int)))), ()))))))))
                  else none)
                else none)
              else bif ((((S124.F ((S119.F (((0 : Int), (X, ())), ((if ((70 : Int) < (Go.IntKind.wrap Go.IntKind.i64 (ex - ey))) then (70 : Int) else (Go.IntKind.wrap Go.IntKind.i64 (ex - ey))), ()))).1, (S120.F (((0 : Int), (Y, ())), ((Go.IntKind.wrap Go.IntKind.i64 ((Go.IntKind.wrap Go.IntKind.i64 (ex - (if ((70 : Int) < (Go.IntKind.wrap Go.IntKind.i64 (ex - ey))) then (70 : Int) else (Go.IntKind.wrap Go.IntKind.i64 (ex - ey))))) - ey)), ()))))).1.1 == (0 : Int)) && ((S124.F ((S119.F (((0 : Int), (X, ())), ((if ((70 : Int) < (Go.IntKind.wrap Go.IntKind.i64 (ex - ey))) then (70 : Int) else (Go.IntKind.wrap Go.IntKind.i64 (ex - ey))), ()))).1, (S120.F (((0 : Int), (Y, ())), ((Go.IntKind.wrap Go.IntKind.i64 ((Go.IntKind.wrap Go.IntKind.i64 (ex - (if ((70 : Int) < (Go.IntKind.wrap Go.IntKind.i64 (ex - ey))) then (70 : Int) else (Go.IntKind.wrap Go.IntKind.i64 (ex - ey))))) - ey)), ()))))).1.2.1 == (0 : Int))) && (!((!(((S119.F ((S120.F (((0 : Int), (Y, ())), ((Go.IntKind.wrap Go.IntKind.i64 ((Go.IntKind.wrap Go.IntKind.i64 (ex - (if ((70 : Int) < (Go.IntKind.wrap Go.IntKind.i64 (ex - ey))) then (70 : Int) else (Go.IntKind.wrap Go.IntKind.i64 (ex - ey))))) - ey)), ()))).1, ((Go.IntKind.wrap Go.IntKind.i64 ((Go.IntKind.wrap Go.IntKind.i64 (ex - (if ((70 : Int) < (Go.IntKind.wrap Go.IntKind.i64 (ex - ey))) then (70 : Int) else (Go.IntKind.wrap Go.IntKind.i64 (ex - ey))))) - ey)), ()))).1.1 == (0 : Int)) && ((S119.F ((S120.F (((0 : Int), (Y, ())), ((Go.IntKind.wrap Go.IntKind.i64 ((Go.IntKind.wrap Go.IntKind.i64 (ex - (if ((70 : Int) < (Go.IntKind.wrap Go.IntKind.i64 (ex - ey))) then (70 : Int) else (Go.IntKind.wrap Go.IntKind.i64 (ex - ey))))) - ey)), ()))).1, ((Go.IntKind.wrap Go.IntKind.i64 ((Go.IntKind.wrap Go.IntKind.i64 (ex - (if ((70 : Int) < (Go.IntKind.wrap Go.IntKind.i64 (ex - ey))) then (70 : Int) else (Go.IntKind.wrap Go.IntKind.i64 (ex - ey))))) - ey)), ()))).1.2.1 == Y))) || ((decide ((Go.IntKind.wrap Go.IntKind.i64 ((Go.IntKind.wrap Go.IntKind.i64 (ex - (if ((70 : Int) < (Go.IntKind.wrap Go.IntKind.i64 (ex - ey))) then (70 : Int) else (Go.IntKind.wrap Go.IntKind.i64 (ex - ey))))) - ey)) > (63 : Int))) && (Y != (0 : Int)))))) then
                (bif (S118.pre (f, ((m == (4 : Int)), ()))) then
                  (some ((S118.F (f, ((m == (4 : Int)), ()))).1, ((0 : Int), ((0 : Int), ()))))
                else none)
              else bif (S122.pre (f, (m, (nx, ((S124.F ((S119.F (((0 : Int), (X, ())), ((if ((70 : Int) < (Go.IntKind.wrap Go.IntKind.i64 (ex - ey))) then (70 : Int) else (Go.IntKind.wrap Go.IntKind.i64 (ex - ey))), ()))).1, (S120.F (((0 : Int), (Y, ())), ((Go.IntKind.wrap Go.IntKind.i64 ((Go.IntKind.wrap Go.IntKind.i64 (ex - (if ((70 : Int) < (Go.IntKind.wrap Go.IntKind.i64 (ex - ey))) then (70 : Int) else (Go.IntKind.wrap Go.IntKind.i64 (ex - ey))))) - ey)), ()))))).1, ((Go.IntKind.wrap Go.IntKind.i64 (ex - (if ((70 : Int) < (Go.IntKind.wrap Go.IntKind.i64 (ex - ey))) then (70 : Int) else (Go.IntKind.wrap Go.IntKind.i64 (ex - ey))))), (((!(((S119.F ((S120.F (((0 : Int), (Y, ())), ((Go.IntKind.wrap Go.IntKind.i64 ((Go.IntKind.wrap Go.IntKind.i64 (ex - (if ((70 : Int) < (Go.IntKind.wrap Go.IntKind.i64 (ex - ey))) then (70 : Int) else (Go.IntKind.wrap Go.IntKind.i64 (ex - ey))))) - ey)), ()))).1, ((Go.IntKind.wrap Go.IntKind.i64 ((Go.IntKind.wrap Go.IntKind.i64 (ex - (if ((70 : Int) < (Go.IntKind.wrap Go.IntKind.i64 (ex - ey))) then (70 : Int) else (Go.IntKind.wrap Go.IntKind.i64 (ex - ey))))) - ey)), ()))).1.1 == (0 : Int)) && ((S119.F ((S120.F (((0 : Int), (Y, ())), ((Go.IntKind.wrap Go.IntKind.i64 ((Go.IntKind.wrap Go.IntKind.i64 (ex - (if ((70 : Int) < (Go.IntKind.wrap Go.IntKind.i64 (ex - ey))) then (70 : Int) else (Go.IntKind.wrap Go.IntKind.i64 (ex - ey))))) - ey)), ()))).1, ((Go.IntKind.wrap Go.IntKind.i64 ((Go.IntKind.wrap Go.IntKind.i64 (ex - (if ((70 : Int) < (Go.IntKind.wrap Go.IntKind.i64 (ex - ey))) then (70 : Int) else (Go.IntKind.wrap Go.IntKind.i64 (ex - ey))))) - ey)), ()))).1.2.1 == Y))) || ((decide ((Go.IntKind.wrap Go.IntKind.i64 ((Go.IntKind.wrap Go.IntKind.i64 (ex - (if ((70 : Int) < (Go.IntKind.wrap Go.IntKind.i64 (ex - ey))) then (70 : Int) else (Go.IntKind.wrap Go.IntKind.i64 (ex - ey))))) - ey)) > (63 : Int))) && (Y != (0 : Int)))), ()))))))) then
                (some (S122.F (f, (m, (nx, ((S124.F ((S119.F (((0 : Int), (X, ())), ((if ((70 : Int) < (Go.IntKind.wrap Go.IntKind.i64 (ex - ey))) then (70 : Int) else (Go.IntKind.wrap Go.IntKind.i64 (ex - ey))), ()))).1, (S120.F (((0 : Int), (Y, ())), ((Go.IntKind.wrap Go.IntKind.i64 ((Go.IntKind.wrap Go.IntKind.i64 (ex - (if ((70 : Int) < (Go.IntKind.wrap Go.IntKind.i64 (ex - ey))) then (70 : Int) else (Go.IntKind.wrap Go.IntKind.i64 (ex - ey))))) - ey)), ()))))).1, ((Go.IntKind.wrap Go.IntKind.i64 (ex - (if ((70 : Int) < (Go.IntKind.wrap Go.IntKind.i64 (ex - ey))) then (70 : Int) else (Go.IntKind.wrap Go.IntKind.i64 (ex - ey))))), (((!(((S119.F ((S120.F (((0 : Int), (Y, ())), ((Go.IntKind.wrap Go.IntKind.i64 ((Go.IntKind.wrap Go.IntKind.i64 (ex - (if ((70 : Int) < (Go.IntKind.wrap Go.IntKind.i64 (ex - ey))) then (70 : Int) else (Go.IntKind.wrap Go.IntKind.i64 (ex - ey))))) - ey)), ()))).1, ((Go.IntKind.wrap Go.IntKind.i64 ((Go.IntKind.wrap Go.IntKind.i64 (ex - (if ((70 : Int) < (Go.IntKind.wrap Go.IntKind.i64 (ex - ey))) then (70 : Int) else (Go.IntKind.wrap Go.IntKind.i64 (ex - ey))))) - ey)), ()))).1.1 == (0 : Int)) && ((S119.F ((S120.F (((0 : Int), (Y, ())), ((Go.IntKind.wrap Go.IntKind.i64 ((Go.IntKind.wrap Go.IntKind.i64 (ex - (if ((70 : Int) < (Go.IntKind.wrap Go.IntKind.i64 (ex - ey))) then (70 : Int) else (Go.IntKind.wrap Go.IntKind.i64 (ex - ey))))) - ey)), ()))).1, ((Go.IntKind.wrap Go.IntKind.i64 ((Go.IntKind.wrap Go.IntKind.i64 (ex - (if ((70 : Int) < (Go.IntKind.wrap Go.IntKind.i64 (ex - ey))) then (70 : Int) else (Go.IntKind.wrap Go.IntKind.i64 (ex - ey))))) - ey)), ()))).1.2.1 == Y))) || ((decide ((Go.IntKind.wrap Go.IntKind.i64 ((Go.IntKind.wrap Go.IntKind.i64 (ex - (if ((70 : Int) < (Go.IntKind.wrap Go.IntKind.i64 (ex - ey))) then (70 : Int) else (Go.IntKind.wrap Go.IntKind.i64 (ex - ey))))) - ey)) > (63 : Int))) && (Y != (0 : Int)))), ()))))))))
              else none)
            else none)
          else none)
        else none)
      else none)
    else none)
  else none
theorem t71_tail (f m : Int) (nx : Bool) (X ex : Int) (ny : Bool) (Y ey : Int) : T71 (f, m, (nx, X, ex, ()), (ny, Y, ey, ()), ()) =
  (bif ((X == 0) && (Y == 0)) && (nx == ny) then (bif S118.pre (f, nx, ()) then some ((S118.F (f, nx, ())).1, 0, 0, ()) else none)
  else bif (X == 0) || ((Y != 0) && decide (ex < ey)) then (bif X == 0 then tail71 f m ny Y ey nx X ey else tail71 f m ny Y ey nx X ex)
  else bif Y == 0 then tail71 f m nx X ex ny Y ex else tail71 f m nx X ex ny Y ey) := by kernel_rfl
theorem Wi_pair {n : Nat} (h : n < 2 ^ 64) : ((0 : Int), ((n : Int), ())) = Wi n := by
  unfold Wi
  rw [Nat.div_eq_of_lt h, Nat.mod_eq_of_lt h]; rfl
theorem Wi_one : ((0 : Int), ((1 : Int), ())) = Wi 1 := rfl
theorem Wi_zero {n : Nat} (h : n < 2 ^ 128) : (((Wi n).1 == 0) && ((Wi n).2.1 == 0)) = decide (n = 0) := by
  show (((n / 2 ^ 64 : Nat) : Int) == 0 && ((n % 2 ^ 64 : Nat) : Int) == 0) = _
  rw [nbeq0, nbeq0, Bool.eq_iff_iff, Bool.and_eq_true, beq_iff_eq, beq_iff_eq, decide_eq_true_eq]
  omega
theorem more_eq {Y dn : Nat} (hY : Y < 2 ^ 64) : ((!(((Wi (Y / 2 ^ dn * 2 ^ dn)).1 == 0) && ((Wi (Y / 2 ^ dn * 2 ^ dn)).2.1 == (Y : Int)))) || (decide ((dn : Int) > 63) && ((Y : Int) != 0))) = decide (Y % 2 ^ dn ≠ 0) := by
  have hdm := Nat.div_add_mod Y (2 ^ dn)
  rw [Nat.mul_comm] at hdm
  generalize hL : Y / 2 ^ dn * 2 ^ dn = L at *
  show ((!(((L / 2 ^ 64 : Nat) : Int) == 0 && ((L % 2 ^ 64 : Nat) : Int) == (Y : Int))) || (decide ((dn : Int) > 63) && ((Y : Int) != 0))) = _
  rw [nbeq0, nbeq, nbne0]
  by_cases h : Y % 2 ^ dn = 0
  · rw [decide_eq_false (p := Y % 2 ^ dn ≠ 0) (by omega)]
    rw [show (L / 2 ^ 64 == 0) = true by rw [beq_iff_eq]; omega, show (L % 2 ^ 64 == Y) = true by rw [beq_iff_eq]; omega]
    by_cases hy : Y = 0
    · rw [hy]; simp
    · have : ¬ (dn : Int) > 63 := fun hd => by
        have h1 : Y < 2 ^ dn := Nat.lt_of_lt_of_le hY (Nat.pow_le_pow_right (by decide) (by omega))
        rw [Nat.mod_eq_of_lt h1] at h
        exact hy h
      rw [decide_eq_false this]; rfl
  · rw [decide_eq_true (p := Y % 2 ^ dn ≠ 0) h]
    rw [show (L % 2 ^ 64 == Y) = false by rw [beq_eq_false_iff_ne]; omega]
    simp
theorem blen_ge {n k : Nat} (h : 2 ^ k ≤ n) : k + 1 ≤ blen n := by
  have h1 := blen_lt n
  have : k < blen n := (Nat.pow_lt_pow_iff_right (a := 2) (by decide)).1 (Nat.lt_of_le_of_lt h h1)
  omega
/-- the exact sum, rounded -/
def sumBits (f m : Int) (nx : Bool) (X : Nat) (ex : Int) (ny : Bool) (Y : Nat) (ey : Int) : Nat × Nat :=
  let e := if ex ≤ ey then ex else ey
  let a := X * 2 ^ (ex - e).toNat
  let b := Y * 2 ^ (ey - e).toNat
  if nx = ny then (if a + b = 0 then (sgnF f nx, 0) else rndN f m nx (a + b) e false)
  else if a = b then (sgnF f (m == 4), 0) else if b < a then rndN f m nx (a - b) e false else rndN f m ny (b - a) e false
theorem sum_at {f m : Int} {nx : Bool} {X : Nat} {ey : Int} {ny : Bool} {Y : Nat} (D : Nat) :
    sumBits f m nx X (ey + D) ny Y ey = if nx = ny then (if X * 2 ^ D + Y = 0 then (sgnF f nx, 0) else rndN f m nx (X * 2 ^ D + Y) ey false)
      else if X * 2 ^ D = Y then (sgnF f (m == 4), 0) else if Y < X * 2 ^ D then rndN f m nx (X * 2 ^ D - Y) ey false else rndN f m ny (Y - X * 2 ^ D) ey false := by
  unfold sumBits
  have he : (if ey + (D : Int) ≤ ey then ey + (D : Int) else ey) = ey := by split <;> omega
  simp only [he]
  rw [show (ey + (D : Int) - ey).toNat = D by omega, show (ey - ey).toNat = 0 by omega, Nat.pow_zero, Nat.mul_one]
theorem sum_comm (f m : Int) (nx : Bool) (X : Nat) (ex : Int) (ny : Bool) (Y : Nat) (ey : Int) : sumBits f m nx X ex ny Y ey = sumBits f m ny Y ey nx X ex := by
  unfold sumBits
  have he : (if ex ≤ ey then ex else ey) = (if ey ≤ ex then ey else ex) := by split <;> split <;> omega
  simp only [he]
  generalize (if ey ≤ ex then ey else ex) = e
  generalize X * 2 ^ (ex - e).toNat = a
  generalize Y * 2 ^ (ey - e).toNat = b
  by_cases hn : nx = ny
  · subst hn
    rw [if_pos rfl, if_pos rfl, Nat.add_comm]
  · rw [if_neg hn, if_neg (Ne.symm hn)]
    rcases Nat.lt_trichotomy a b with h | h | h
    · rw [if_neg (by omega), if_neg (by omega), if_neg (by omega), if_pos h]
    · rw [if_pos h, if_pos h.symm]
    · rw [if_neg (by omega), if_pos h, if_neg (by omega), if_neg (by omega)]
/-- a zero's exponent doesn't count -/
theorem sum_zero {f m : Int} (hf : Fm f) (nx : Bool) (X : Nat) (ex : Int) (ny : Bool) (ey : Int) : sumBits f m nx X ex ny 0 ey = if X = 0 then (if nx = ny then (sgnF f nx, 0) else (sgnF f (m == 4), 0)) else rndN f m nx X ex false := by
  rcases Int.le_total ex ey with h | h
  · obtain ⟨D, hD⟩ := Int.eq_ofNat_of_zero_le (show 0 ≤ ey - ex by omega)
    have : ey = ex + D := by omega
    subst this
    rw [sum_comm, sum_at, Nat.zero_mul, Nat.zero_add]
    by_cases hn : nx = ny
    · subst hn
      simp only [↓reduceIte]
    · rw [if_neg (Ne.symm hn), if_neg hn]
      by_cases hx : X = 0
      · subst hx
        simp only [↓reduceIte]
      · rw [if_neg (by omega), if_neg (by omega), if_neg hx, Nat.sub_zero]
  · obtain ⟨D, hD⟩ := Int.eq_ofNat_of_zero_le (show 0 ≤ ex - ey by omega)
    have : ex = ey + D := by omega
    subst this
    rw [sum_at, Nat.add_zero]
    by_cases hx : X = 0
    · subst hx
      rw [if_pos rfl, Nat.zero_mul, if_pos rfl, if_pos rfl]
    · have hp := Nat.two_pow_pos D
      have hpos : 0 < X * 2 ^ D := Nat.mul_pos (by omega) hp
      rw [if_neg hx]
      by_cases hn : nx = ny
      · rw [if_pos hn, if_neg (by omega), rnd_scale hf hx]
      · rw [if_neg hn, if_neg (by omega), if_pos hpos, Nat.sub_zero, rnd_scale hf hx]
theorem tail_eq {f m : Int} (hf : Fm f) (hm : 0 ≤ m ∧ m ≤ 5) (nx : Bool) (X D : Nat) (ny : Bool) (Y : Nat) (ey : Int) (hX : X < 2 ^ 53) (hY : Y < 2 ^ 53) (he : -2000 ≤ ey ∧ ey + D ≤ 2000) (h0 : X ≠ 0 ∨ (Y = 0 ∧ nx ≠ ny)) :
    tail71 f m nx X (ey + D) ny Y ey = some (((sumBits f m nx X (ey + D) ny Y ey).1 : Int), ((sumBits f m nx X (ey + D) ny Y ey).2 : Int), 0, ()) := by
  rw [sum_at]
  have hW := fW_le hf
  have hP := fP_lt hf
  have hU : ∃ U dn : Nat, (if (70 : Int) < (D : Int) then (70 : Int) else (D : Int)) = (U : Int) ∧ D = U + dn ∧ U ≤ 70 ∧ (dn ≠ 0 → U = 70) := by
    by_cases h : 70 < D
    · exact ⟨70, D - 70, by rw [if_pos (by omega)]; rfl, by omega, by omega, fun _ => rfl⟩
    · exact ⟨D, 0, by rw [if_neg (by omega)], by omega, by omega, fun h => absurd rfl h⟩
  obtain ⟨U, dn, hU1, hU2, hU3, hU4⟩ := hU
  have e1 : IntKind.wrap .i64 (ey + (D : Int) - ey) = (D : Int) := by rw [wrapI (by omega)]; omega
  have e2 : IntKind.wrap .i64 (ey + (D : Int) - (U : Int)) = ey + (dn : Int) := by rw [wrapI (by omega)]; omega
  have e3 : IntKind.wrap .i64 (ey + (dn : Int) - ey) = (dn : Int) := by rw [wrapI (by omega)]; omega
  have hpU := Nat.two_pow_pos U
  have hpd := Nat.two_pow_pos dn
  have hU70 : 2 ^ U ≤ 2 ^ 70 := Nat.pow_le_pow_right (by decide) hU3
  have hH : X * 2 ^ U < 2 ^ 123 := by
    have h1 : X * 2 ^ U ≤ X * 2 ^ 70 := Nat.mul_le_mul_left _ hU70
    have h2 : X * 2 ^ 70 < 2 ^ 53 * 2 ^ 70 := Nat.mul_lt_mul_of_pos_right hX (by decide)
    omega
  have hXD : X * 2 ^ D = X * 2 ^ U * 2 ^ dn := by rw [hU2, Nat.pow_add, Nat.mul_assoc]
  have hbig : Y % 2 ^ dn ≠ 0 → 2 ^ 70 ≤ X * 2 ^ U ∧ X ≠ 0 := fun h => by
    have hd : dn ≠ 0 := fun h1 => by rw [h1, Nat.pow_zero, Nat.mod_one] at h; exact h rfl
    have hy : Y ≠ 0 := fun h1 => by rw [h1, Nat.zero_mod] at h; exact h rfl
    have hx : X ≠ 0 := by
      rcases h0 with h | h
      · exact h
      · exact absurd h.1 hy
    refine ⟨?_, hx⟩
    rw [hU4 hd]
    exact Nat.le_mul_of_pos_left _ (by omega)
  have hYL : Y / 2 ^ dn ≤ Y := Nat.div_le_self _ _
  have hLd : Y / 2 ^ dn * 2 ^ dn ≤ Y := Nat.div_mul_le_self _ _
  have p1 : T119 (((0 : Int), ((X : Int), ())), ((U : Int), ())) = some (Wi (X * 2 ^ U), ()) := by
    rw [Wi_pair (by omega), T119_eq _ _ (by omega), Nat.mod_eq_of_lt (by omega)]
  have p2 : T120 (((0 : Int), ((Y : Int), ())), ((dn : Int), ())) = some (Wi (Y / 2 ^ dn), ()) := by
    rw [Wi_pair (by omega), T120_eq _ _ (by omega)]
  have p3 : T119 (Wi (Y / 2 ^ dn), ((dn : Int), ())) = some (Wi (Y / 2 ^ dn * 2 ^ dn), ()) := by
    rw [T119_eq _ _ (by omega), Nat.mod_eq_of_lt (by omega)]
  have p4 := T121_eq (X * 2 ^ U) (Y / 2 ^ dn) (by omega)
  have p5 := T123_eq (X * 2 ^ U) (Y / 2 ^ dn)
  have pz := T118_ok hf (m == 4)
  unfold tail71
  simp only [e1, hU1, e2, e3, pre119 p1, fun119 p1, pre120 p2, fun120 p2, pre119 p3, fun119 p3, cond_true, pre121 p4, fun121 p4, pre123 p5, fun123 p5, more_eq (show Y < 2 ^ 64 by omega)]
  have hdm := Nat.div_add_mod Y (2 ^ dn)
  have hml := Nat.mod_lt Y hpd
  have hX0H : X = 0 → X * 2 ^ U = 0 := fun h => by rw [h, Nat.zero_mul]
  have hXb : X ≠ 0 → dn ≠ 0 → 2 ^ 70 ≤ X * 2 ^ U := fun h1 h2 => by rw [hU4 h2]; exact Nat.le_mul_of_pos_left _ (by omega)
  have hHp : X ≠ 0 → 0 < X * 2 ^ U := fun h => Nat.mul_pos (by omega) hpU
  clear e1 e2 e3 p1 p2 p3
  rw [Nat.mul_comm] at hdm
  generalize hHe : X * 2 ^ U = H at *
  generalize hLe : Y / 2 ^ dn = L at *
  generalize hRe : Y % 2 ^ dn = R at *
  by_cases hn : nx = ny
  · subst hn
    rw [if_pos rfl, show (nx == nx) = true by cases nx <;> rfl, cond_true]
    have hX0 : X ≠ 0 := by
      rcases h0 with h | h
      · exact h
      · exact absurd rfl h.2
    have hHp := hHp hX0
    have hN : X * 2 ^ D + Y = Y + H * 2 ^ dn := by rw [hXD, Nat.add_comm]
    have hNd : (X * 2 ^ D + Y) / 2 ^ dn = H + L := by rw [hN, Nat.add_mul_div_right _ _ hpd, hLe, Nat.add_comm]
    have hNm : (X * 2 ^ D + Y) % 2 ^ dn = R := by rw [hN, Nat.add_mul_mod_self_right, hRe]
    have hbl : R ≠ 0 → fP f + 2 ≤ blen (H + L) := fun h => by
      have h1 := (hbig h).1
      have := blen_ge (n := H + L) (k := 70) (by omega)
      omega
    have p6 := T122_eq hf hm nx (H + L) (by omega) (ey + (dn : Int)) (by omega) (decide (R ≠ 0)) (fun h => hbl (by simpa using h))
    rw [if_neg (by omega)] at p6
    simp only [pre122 p6, fun122 p6, cond_true]
    have htr := rnd_trunc (f := f) (m := m) (neg := nx) (N := X * 2 ^ D + Y) (k := dn) (E := ey) hf (by rw [hNd]; omega) (by rw [hNd, hNm]; exact hbl)
    rw [hNd, hNm] at htr
    have hpp : 0 < H * 2 ^ dn := Nat.mul_pos hHp hpd
    rw [htr, if_neg (by rw [hXD]; omega)]
  · rw [if_neg hn, show (nx == ny) = false by cases nx <;> cases ny <;> first | rfl | exact absurd rfl hn, cond_false]
    by_cases hlt : H < L
    · -- low is the greater: nothing is lost
      have hm0 : R = 0 := by
        by_cases h : R = 0
        · exact h
        · have := (hbig h).1; omega
      have hdn : dn = 0 := by
        by_cases h : dn = 0
        · exact h
        · exfalso
          rcases h0 with h1 | h1
          · have h2 := hXb h1 h
            omega
          · have := h1.1; omega
      subst hdn
      have hY1 : Y = L := by rw [← hLe]; simp
      subst hY1
      have hXD1 : X * 2 ^ D = H := by rw [hXD]; simp
      rw [hm0, hXD1]
      have p7 := T124_eq Y H (by omega) (by omega)
      have p6 := T122_eq hf hm ny (Y - H) (by omega) (ey + ((0 : Nat) : Int)) (by omega) false (fun h => by cases h)
      rw [if_neg (by omega)] at p6
      have z1 : decide ((if H = Y then (0 : Int) else if H < Y then -1 else 1) < 0) = true := by
        rw [if_neg (by omega), if_pos hlt]; rfl
      have z2 : decide ((0 : Nat) ≠ 0) = false := by decide
      have z3 := Wi_zero (n := Y - H) (by omega)
      rw [decide_eq_false (p := Y - H = 0) (by omega)] at z3
      simp only [z1, z2, cond_true, cond_false, pre124 p7, fun124 p7, z3, Bool.false_and, pre122 p6, fun122 p6]
      rw [if_neg (by omega), if_neg (by omega), Int.natCast_zero, Int.add_zero]
    · have hge : L ≤ H := by omega
      have p7 := T124_eq H L (by omega) hge
      have z1 : decide ((if H = L then (0 : Int) else if H < L then -1 else 1) < 0) = false := by
        by_cases h : H = L
        · rw [if_pos h]; rfl
        · rw [if_neg h, if_neg hlt]; rfl
      simp only [z1, cond_false, pre124 p7, fun124 p7, cond_true]
      by_cases hm0 : R = 0
      · rw [hm0, show decide ((0 : Nat) ≠ 0) = false by decide, cond_false]
        have hYe : Y = L * 2 ^ dn := by omega
        have z3 := Wi_zero (n := H - L) (by omega)
        rw [z3]
        by_cases hz : H - L = 0
        · have heq : X * 2 ^ D = Y := by rw [hXD, hYe, show H = L by omega]
          rw [decide_eq_true hz, if_pos heq]
          simp only [Bool.not_false, Bool.and_self, cond_true, pre118 pz, fun118 pz]
          rfl
        · rw [decide_eq_false hz]
          have p6 := T122_eq hf hm nx (H - L) (by omega) (ey + (dn : Int)) (by omega) false (fun h => by cases h)
          rw [if_neg hz] at p6
          simp only [Bool.false_and, cond_false, pre122 p6, fun122 p6, cond_true]
          have hN : X * 2 ^ D - Y = (H - L) * 2 ^ dn := by rw [hXD, Nat.sub_mul, ← hYe]
          have hpp : 0 < (H - L) * 2 ^ dn := Nat.mul_pos (by omega) hpd
          have hlt2 : Y < X * 2 ^ D := by omega
          rw [if_neg (by omega), if_pos hlt2, hN, rnd_scale hf hz]
      · rw [decide_eq_true (p := R ≠ 0) hm0, cond_true]
        obtain ⟨hb1, hX0⟩ := hbig hm0
        have p8 := T124_eq (H - L) 1 (by omega) (by omega)
        rw [← Wi_one] at p8
        have hbl : fP f + 2 ≤ blen (H - L - 1) := by
          have := blen_ge (n := H - L - 1) (k := 69) (by omega)
          omega
        have p6 := T122_eq hf hm nx (H - L - 1) (by omega) (ey + (dn : Int)) (by omega) true (fun _ => hbl)
        rw [if_neg (by omega)] at p6
        simp only [pre124 p8, fun124 p8, cond_true, Bool.not_true, Bool.and_false, cond_false, pre122 p6, fun122 p6]
        have h2 : (L + 1 + (H - L - 1)) * 2 ^ dn = H * 2 ^ dn := by rw [show L + 1 + (H - L - 1) = H by omega]
        rw [Nat.add_mul, Nat.add_mul, Nat.one_mul] at h2
        have hN : X * 2 ^ D - Y = (2 ^ dn - R) + (H - L - 1) * 2 ^ dn := by rw [hXD]; omega
        have hlt2 : Y < X * 2 ^ D := by omega
        have hNd : (X * 2 ^ D - Y) / 2 ^ dn = H - L - 1 := by
          rw [hN, Nat.add_mul_div_right _ _ hpd, Nat.div_eq_of_lt (by omega), Nat.zero_add]
        have hNm : (X * 2 ^ D - Y) % 2 ^ dn = 2 ^ dn - R := by
          rw [hN, Nat.add_mul_mod_self_right, Nat.mod_eq_of_lt (by omega)]
        have htr := rnd_trunc (f := f) (m := m) (neg := nx) (N := X * 2 ^ D - Y) (k := dn) (E := ey) hf (by rw [hNd]; omega) (fun _ => by rw [hNd]; exact hbl)
        rw [hNd, hNm, decide_eq_true (p := 2 ^ dn - R ≠ 0) (by omega)] at htr
        rw [htr, if_neg (by omega), if_pos hlt2]
theorem T71_eq {f m : Int} (hf : Fm f) (hm : 0 ≤ m ∧ m ≤ 5) (nx : Bool) (X : Nat) (ex : Int) (ny : Bool) (Y : Nat) (ey : Int) (hX : X < 2 ^ 53) (hY : Y < 2 ^ 53) (hex : -2000 ≤ ex ∧ ex ≤ 2000) (hey : -2000 ≤ ey ∧ ey ≤ 2000) :
    T71 (f, m, (nx, (X : Int), ex, ()), (ny, (Y : Int), ey, ()), ()) = some (((sumBits f m nx X ex ny Y ey).1 : Int), ((sumBits f m nx X ex ny Y ey).2 : Int), 0, ()) := by
  rw [t71_tail]
  by_cases hX0 : X = 0
  · subst hX0
    by_cases hYn : Y = 0 ∧ nx = ny
    · obtain ⟨rfl, rfl⟩ := hYn
      have p0 := T118_ok hf nx
      rw [show ((((0 : Nat) : Int) == 0) && (((0 : Nat) : Int) == 0) && (nx == nx)) = true by cases nx <;> rfl, cond_true]
      simp only [pre118 p0, fun118 p0, cond_true]
      rw [sum_zero hf, if_pos rfl, if_pos rfl]
      rfl
    · have hg : ((((0 : Nat) : Int) == 0) && (((Y : Nat) : Int) == 0) && (nx == ny)) = false := by
        by_cases hy : Y = 0
        · have : nx ≠ ny := fun h => hYn ⟨hy, h⟩
          subst hy
          cases nx <;> cases ny <;> first | rfl | exact absurd rfl this
        · rw [beq0_f Y hy, Bool.and_false, Bool.false_and]
      have h1 : (((0 : Nat) : Int) == 0) = true := rfl
      rw [hg, cond_false, h1, Bool.true_or, cond_true, cond_true]
      have ht := tail_eq hf hm ny Y 0 nx 0 ey hY hX (by omega) (by
        by_cases hy : Y = 0
        · exact .inr ⟨rfl, fun h => hYn ⟨hy, h.symm⟩⟩
        · exact .inl hy)
      rw [Int.natCast_zero, Int.add_zero] at ht
      rw [Int.natCast_zero, ht, sum_comm f m nx 0 ex, sum_zero hf, sum_zero hf]
  · have hx0 : ((X : Int) == 0) = false := beq0_f _ hX0
    rw [hx0, Bool.false_and, Bool.false_and, cond_false, Bool.false_or, cond_false]
    by_cases hY0 : Y = 0
    · subst hY0
      have ht := tail_eq hf hm nx X 0 ny 0 ex hX hY (by omega) (.inl hX0)
      rw [Int.natCast_zero, Int.add_zero] at ht
      rw [show (((0 : Nat) : Int) != 0) = false by rfl, Bool.false_and, cond_false, show (((0 : Nat) : Int) == 0) = true by rfl, cond_true, Int.natCast_zero, ht, sum_zero hf, sum_zero hf]
    · rw [bne0_t _ hY0, Bool.true_and, beq0_f _ hY0, cond_false]
      by_cases hlt : ex < ey
      · rw [decide_eq_true hlt, cond_true]
        obtain ⟨D, hD⟩ := Int.eq_ofNat_of_zero_le (show 0 ≤ ey - ex by omega)
        have hee : ey = ex + D := by omega
        subst hee
        rw [tail_eq hf hm ny Y D nx X ex hY hX (by omega) (.inl hY0), sum_comm f m ny Y]
      · rw [decide_eq_false hlt, cond_false]
        obtain ⟨D, hD⟩ := Int.eq_ofNat_of_zero_le (show 0 ≤ ex - ey by omega)
        have hee : ex = ey + D := by omega
        subst hee
        rw [tail_eq hf hm nx X D ny Y ey hX hY (by omega) (.inl hX0)]
end VL
namespace VL
open Go Vx
/-- digits of 32 bits as the reference has them, of a number -/
def Dh (n : Nat) : List Int := Wd (dg (2 ^ 32) n)
def Hs (l : List Nat) : Prop := (∀ x ∈ l, x < 2 ^ 32) ∧ l.length ≤ 1000000
theorem Hs.dg {n : Nat} (h : n < 2 ^ 100000) : Hs (dg (2 ^ 32) n) := by
  refine ⟨dg_lt (by decide) n, ?_⟩
  have : n < (2 ^ 32) ^ 3125 := by rw [← Nat.pow_mul]; exact h
  have := dg_len_le (B := 2 ^ 32) (by decide) 3125 n this
  omega
theorem nv_Dh (n : Nat) : nv (2 ^ 32) (dg (2 ^ 32) n) = n := nv_dg (by decide) n
theorem Dh_len0 (n : Nat) : (((Dh n).length : Int) == 0) = decide (n = 0) := by
  unfold Dh
  rw [Wd_len]
  by_cases h : n = 0
  · subst h; rw [dg_zero]; rfl
  · rw [dg_pos (by decide) (by omega), decide_eq_false h]
    exact beq0_f _ (by simp)
theorem Dh_len {n : Nat} (h : n ≠ 0) : 0 < (Dh n).length := by
  unfold Dh; rw [Wd_len, dg_pos (by decide) (by omega)]; simp
theorem Dh_get (n : Nat) : (Dh n).getD 0 0 = ((n % 2 ^ 32 : Nat) : Int) := by
  unfold Dh; rw [Wd_getD]
  rcases Nat.eq_zero_or_pos n with rfl | h
  · rw [dg_zero]; rfl
  · rw [dg_pos (by decide) h]; rfl
theorem Dh_small {x : Nat} (h0 : x ≠ 0) (h : x < 2 ^ 32) : Dh x = (x : Int) :: [] := by
  unfold Dh
  rw [dg_pos (by decide) (by omega), Nat.mod_eq_of_lt h, Nat.div_eq_of_lt h, dg_zero]; rfl
theorem room8 (n : Nat) (h : n ≤ 100000000) : roomOk n 8 = true := by
  unfold roomOk
  rw [Nat.ble_eq]; omega
theorem tmod32 (x : Nat) : Int.tmod (x : Int) 4294967296 = ((x % 2 ^ 32 : Nat) : Int) := rfl
theorem quo32 (x : Nat) (h : x < 2 ^ 64) : quoI .u64 (x : Int) 4294967296 = ((x / 2 ^ 32 : Nat) : Int) := by
  unfold quoI
  have e : (x : Int).tdiv 4294967296 = ((x / 2 ^ 32 : Nat) : Int) := rfl
  rw [e, wrapU (by omega)]
theorem quoE32 (n : Nat) (hn : n ≤ 1000000000) : quoI .i64 (n : Int) 32 = ((n / 32 : Nat) : Int) := by
  unfold quoI
  have e : (n : Int).tdiv 32 = ((n / 32 : Nat) : Int) := rfl
  rw [e, wrapI (by omega)]
theorem tmodE32 (n : Nat) : Int.tmod (n : Int) 32 = ((n % 32 : Nat) : Int) := rfl
theorem wu_id (n : Nat) (h : n < 2 ^ 64) : IntKind.wrap .u64 (n : Int) = (n : Int) := wrapU (by omega)
theorem wu_mul (a b : Nat) (h : a * b < 2 ^ 64) : IntKind.wrap .u64 ((a : Int) * (b : Int)) = ((a * b : Nat) : Int) := by
  rw [← Int.natCast_mul, wu_id _ h]
theorem wu_add (a b : Nat) (h : a + b < 2 ^ 64) : IntKind.wrap .u64 ((a : Int) + (b : Int)) = ((a + b : Nat) : Int) := by
  rw [← Int.natCast_add, wu_id _ h]
theorem wd_snoc (l : List Nat) (v : Nat) : Wd l ++ ((v : Int) :: []) = Wd (l ++ [v]) := by simp [Wd]
theorem wd_snoc2 (l : List Nat) (u v : Nat) : Wd l ++ ((u : Int) :: ((v : Int) :: [])) = Wd (l ++ [u, v]) := by simp [Wd]
theorem W158_eq (l : List Nat) (hl : l.length ≤ 1000000) (n : Nat) (hn : n ≤ l.length) (ht : (trimL l).length ≤ n) :
    W158_2 ((Wd l, ((n : Int), ())), ()) = some (.inl ((Wd l, (((trimL l).length : Int), ())), ())) := by
  have key := lfix_ind m158_2 (fun x => x.1.2.1.toNat)
    (fun x => ∃ n : Nat, n ≤ l.length ∧ (trimL l).length ≤ n ∧ x = ((Wd l, ((n : Int), ())), ()))
    (fun _ => .inl ((Wd l, (((trimL l).length : Int), ())), ())) ?_ ((Wd l, ((n : Int), ())), ()) ⟨n, hn, ht, rfl⟩
  · exact key
  intro L x hx hL
  obtain ⟨n, hn, ht, rfl⟩ := hx
  unfold h158_2
  rcases Nat.eq_zero_or_pos n with rfl | hpos
  · have e1 : decide (((0 : Nat) : Int) > 0) = false := rfl
    simp only [e1, Bool.not_false, Bool.or_true, cond_true, Bool.false_and, cond_false]
    have : (trimL l).length = 0 := by omega
    rw [this]
  · simp (disch := omega) only [wadd, wadd1, wadd64, wsubn, wsub1, wmul64, ilt_t, ilt_f, ile_t, ile_f, igt_t, igt_f, ige_t, ige_f, ipos_t, ipos_f, igt0_t, igt0_f, nnn, beq0_t, beq0_f, bne0_t, bne0_f, Int.toNat_natCast, Int.toNat_zero, cond_true, cond_false, Bool.and_self, Bool.true_and, Bool.and_true, Bool.false_and, Bool.and_false, Bool.not_true, Bool.not_false, Bool.or_self, Bool.true_or, Bool.or_true, Bool.false_or, Bool.or_false, Wd_len, Wd_getD, nbeq0]
    cases hz : (l.getD (n - 1) 0 == 0) with
    | true =>
      simp only [cond_true]
      refine hL _ ⟨n - 1, by omega, ?_, rfl⟩ (by simp only [Int.toNat_natCast]; omega)
      rcases Nat.lt_or_ge (n - 1) (trimL l).length with h | h
      · exfalso
        have e : n = (trimL l).length := by omega
        have := trim_last l (by omega)
        rw [← e] at this
        exact this (by simpa using hz)
      · exact h
    | false =>
      simp only [cond_false]
      have : (trimL l).length = n := by
        rcases Nat.lt_or_ge (n - 1) (trimL l).length with h | h
        · omega
        · exfalso
          have := trim_out l (n - 1) h
          rw [this] at hz
          simp at hz
      rw [this]
theorem T158_eq (l : List Nat) (hl : l.length ≤ 1000000) : T158 (Wd l, ()) = some (Wd (trimL l), ()) := by
  show t158 W158_2 (Wd l) = _
  unfold t158
  have h := W158_eq l hl l.length (Nat.le_refl _) (trim_len l).1
  have e := (trim_len l).1
  rw [Wd_len, h]
  show (bif (decide ((0 : Int) ≤ ((trimL l).length : Int)) && decide (((trimL l).length : Int) ≤ ((Wd l).length : Int))) then some (((Wd l).take (Int.toNat ((trimL l).length : Int))).drop (Int.toNat 0), ()) else none) = _
  simp (disch := omega) only [wadd, wadd1, wadd64, wsubn, wsub1, wmul64, ilt_t, ilt_f, ile_t, ile_f, igt_t, igt_f, ige_t, ige_f, ipos_t, ipos_f, igt0_t, igt0_f, nnn, beq0_t, beq0_f, bne0_t, bne0_f, Int.toNat_natCast, Int.toNat_zero, cond_true, cond_false, Bool.and_self, Bool.true_and, Bool.and_true, Bool.false_and, Bool.and_false, Bool.not_true, Bool.not_false, Bool.or_self, Bool.true_or, Bool.or_true, Bool.false_or, Bool.or_false, Wd_len, List.drop_zero, Wd_take]
  rw [← (trim_len l).2]
/-- Trim of digits of 32 bits -/
theorem T158_h {l : List Nat} (hl : Hs l) {v : Nat} (hv : nv (2 ^ 32) l = v) : T158 (Wd l, ()) = some (Dh v, ()) := by
  rw [T158_eq l hl.2, trim_dg (by decide) _ hl.1, hv]; rfl
theorem app_lt {B : Nat} {l : List Nat} {v : Nat} (h : ∀ x ∈ l, x < B) (hv : v < B) : ∀ x ∈ l ++ [v], x < B := fun x hx => by
  rcases List.mem_append.1 hx with hx | hx
  · exact h x hx
  · have : x = v := by simpa using hx
    rw [this]; exact hv
theorem nv_snoc (B : Nat) (l : List Nat) (v : Nat) : nv B (l ++ [v]) = nv B l + B ^ l.length * v := by
  rw [nv_append]; simp [nv]
theorem W125_eq (a : List Nat) (ha : ∀ x ∈ a, x < 2 ^ 64) (hlen : a.length ≤ 1000000) :
    W125_3 ((Wd a, ((0 : Int), ((), ()))), ([], ())) = some (.inl (((), ()), (Wd (pd (2 ^ 32) (2 * a.length) (nv (2 ^ 64) a)), ()))) := by
  have key := lfix_ind (m125_3 S158.pre S158.F) (fun x => a.length - x.1.2.1.toNat)
    (fun x => ∃ (i : Nat) (out : List Nat), i ≤ a.length ∧ out.length = 2 * i ∧ (∀ x ∈ out, x < 2 ^ 32) ∧ nv (2 ^ 32) out = nv (2 ^ 64) (a.take i) ∧ x = ((Wd a, ((i : Int), ((), ()))), (Wd out, ())))
    (fun _ => .inl (((), ()), (Wd (pd (2 ^ 32) (2 * a.length) (nv (2 ^ 64) a)), ()))) ?_ ((Wd a, ((0 : Int), ((), ()))), ([], ())) ⟨0, [], Nat.zero_le _, rfl, (fun x hx => by simp at hx), by simp [nv], rfl⟩
  · exact key
  intro L x hx hL
  obtain ⟨i, out, hi, hol, hod, hov, rfl⟩ := hx
  unfold h125_3
  rcases Nat.lt_or_ge i a.length with hlt | hge
  · have hx := getD_lt (by decide) ha i
    have hn := nv_take_next (2 ^ 64) a i
    generalize hd : a.getD i 0 = d at *
    simp (disch := omega) only [wadd, wadd1, wadd64, wsubn, wsub1, wmul64, ilt_t, ilt_f, ile_t, ile_f, igt_t, igt_f, ige_t, ige_f, ipos_t, ipos_f, igt0_t, igt0_f, nnn, beq0_t, beq0_f, bne0_t, bne0_f, Int.toNat_natCast, Int.toNat_zero, cond_true, cond_false, Bool.and_self, Bool.true_and, Bool.and_true, Bool.false_and, Bool.and_false, Bool.not_true, Bool.not_false, Bool.or_self, Bool.true_or, Bool.or_true, Bool.false_or, Bool.or_false, Wd_len, Wd_getD, hd, tmod32, quo32, wd_snoc2, List.length_cons, List.length_nil, room8]
    refine hL _ ⟨i + 1, out ++ [d % 2 ^ 32, d / 2 ^ 32], by omega, by simp; omega, ?_, ?_, rfl⟩ (by simp only [Int.toNat_natCast]; omega)
    · intro x hx
      rcases List.mem_append.1 hx with hx | hx
      · exact hod x hx
      · have : x = d % 2 ^ 32 ∨ x = d / 2 ^ 32 := by simpa using hx
        omega
    · rw [nv_append, hov, hol, hn, Nat.pow_mul]
      show nv (2 ^ 64) (a.take i) + (2 ^ 64) ^ i * (d % 2 ^ 32 + 2 ^ 32 * (d / 2 ^ 32 + 2 ^ 32 * 0)) = _
      congr 2
      omega
  · have e : i = a.length := by omega
    subst e
    rw [List.take_length] at hov
    have ho := pd_at (B := 2 ^ 32) (by decide) hod hol hov
    subst ho
    simp (disch := omega) only [wadd, wadd1, wadd64, wsubn, wsub1, wmul64, ilt_t, ilt_f, ile_t, ile_f, igt_t, igt_f, ige_t, ige_f, ipos_t, ipos_f, igt0_t, igt0_f, nnn, beq0_t, beq0_f, bne0_t, bne0_f, Int.toNat_natCast, Int.toNat_zero, cond_true, cond_false, Bool.and_self, Bool.true_and, Bool.and_true, Bool.false_and, Bool.and_false, Bool.not_true, Bool.not_false, Bool.or_self, Bool.true_or, Bool.or_true, Bool.false_or, Bool.or_false, Wd_len]
theorem T125_eq (a : List Nat) (ha : ∀ x ∈ a, x < 2 ^ 64) (hlen : a.length ≤ 400000) : T125 (Wd a, ()) = some (Dh (nv (2 ^ 64) a), ()) := by
  show t125 S158.pre S158.F W125_3 (Wd a) = _
  unfold t125
  have hw := W125_eq a ha (by omega)
  have hlt := nv_lt (B := 2 ^ 64) (by decide) a ha
  have p0 := T158_h (l := pd (2 ^ 32) (2 * a.length) (nv (2 ^ 64) a)) ⟨pd_lt (by decide) _ _, by rw [pd_len]; omega⟩ (pd_nv (by decide) _ _ (by rw [Nat.pow_mul]; exact hlt))
  have e1 : IntKind.wrap .i64 (2 * ((Wd a).length : Int)) = ((2 * a.length : Nat) : Int) := by rw [Wd_len, wrapI (by omega)]; omega
  have e2 : decide (((2 * a.length : Nat) : Int) * 8 ≤ 140737488355328) = true := decide_eq_true (by omega)
  simp (disch := omega) only [wadd, wadd1, wadd64, wsubn, wsub1, wmul64, ilt_t, ilt_f, ile_t, ile_f, igt_t, igt_f, ige_t, ige_f, ipos_t, ipos_f, igt0_t, igt0_f, nnn, beq0_t, beq0_f, bne0_t, bne0_f, Int.toNat_natCast, Int.toNat_zero, cond_true, cond_false, Bool.and_self, Bool.true_and, Bool.and_true, Bool.false_and, Bool.and_false, Bool.not_true, Bool.not_false, Bool.or_self, Bool.true_or, Bool.or_true, Bool.false_or, Bool.or_false, e1, e2, List.replicate_zero, hw]
  show (bif S158.pre (Wd (pd (2 ^ 32) (2 * a.length) (nv (2 ^ 64) a)), ()) then some (S158.F (Wd (pd (2 ^ 32) (2 * a.length) (nv (2 ^ 64) a)), ())) else none) = _
  simp only [pre158 p0, fun158 p0, cond_true]
  rfl
/-- one word as digits -/
theorem T125_one {x : Nat} (h : x < 2 ^ 64) : T125 (((x : Int) :: []), ()) = some (Dh x, ()) := by
  have := T125_eq [x] (fun y hy => by have : y = x := by simpa using hy
                                      omega) (by simp)
  simpa [nv, Wd] using this
theorem carry_step {B : Nat} {out : List Nat} {k c V V' d : Nat} (hol : out.length = k) (hov : nv B out + B ^ k * c = V) (hV : V' = V + B ^ k * d) :
    nv B (out ++ [(d + c) % B]) + B ^ (k + 1) * ((d + c) / B) = V' := by
  rw [nv_snoc, hol, hV, ← hov, Nat.pow_succ, Nat.mul_assoc, Nat.add_assoc, ← Nat.mul_add]
  have := Nat.mod_add_div (d + c) B
  rw [this, Nat.mul_add]
  omega
theorem carry_end {B : Nat} (hB : 2 ≤ B) {out : List Nat} {k c V : Nat} (hol : out.length = k) (hod : ∀ x ∈ out, x < B) (hov : nv B out + B ^ k * c = V) : out = pd B k (V % B ^ k) ∧ c = V / B ^ k := by
  have hlt := nv_lt hB out hod
  rw [hol] at hlt
  have hp : 0 < B ^ k := Nat.pow_pos (by omega)
  refine ⟨pd_at (by omega) hod hol ?_, ?_⟩
  · rw [← hov, Nat.add_mul_mod_self_left, Nat.mod_eq_of_lt hlt]
  · rw [← hov, Nat.add_mul_div_left _ _ hp, Nat.div_eq_of_lt hlt, Nat.zero_add]
theorem nv_rep (B n : Nat) : nv B (List.replicate n 0) = 0 := by
  induction n with
  | zero => rfl
  | succ n ih => rw [List.replicate_succ]; simp [nv, ih]
theorem W127_eq (l : List Nat) (hl : Hs l) (m w : Nat) (hm : m ≤ 2 ^ 31) (hw : w ≤ 1000000) :
    W127_5 ((Wd l, ((m : Int), ((0 : Int), ((), ((0 : Int), ()))))), (Wd (List.replicate w 0), ())) =
      some (.inl (((), ((((2 ^ 32) ^ w * (nv (2 ^ 32) l * m) / (2 ^ 32) ^ (w + l.length) : Nat) : Int), ())), (Wd (pd (2 ^ 32) (w + l.length) ((2 ^ 32) ^ w * (nv (2 ^ 32) l * m) % (2 ^ 32) ^ (w + l.length))), ()))) := by
  have key := lfix_ind (m127_5 S158.pre S158.F) (fun x => l.length - x.1.2.2.1.toNat)
    (fun x => ∃ (i : Nat) (out : List Nat) (c : Nat), i ≤ l.length ∧ out.length = w + i ∧ (∀ x ∈ out, x < 2 ^ 32) ∧ c < 2 ^ 32 ∧ nv (2 ^ 32) out + (2 ^ 32) ^ (w + i) * c = (2 ^ 32) ^ w * (nv (2 ^ 32) (l.take i) * m) ∧ x = ((Wd l, ((m : Int), ((i : Int), ((), ((c : Int), ()))))), (Wd out, ())))
    (fun _ => .inl (((), ((((2 ^ 32) ^ w * (nv (2 ^ 32) l * m) / (2 ^ 32) ^ (w + l.length) : Nat) : Int), ())), (Wd (pd (2 ^ 32) (w + l.length) ((2 ^ 32) ^ w * (nv (2 ^ 32) l * m) % (2 ^ 32) ^ (w + l.length))), ()))) ?_ _
    ⟨0, List.replicate w 0, 0, Nat.zero_le _, by simp, (fun x hx => by have := List.eq_of_mem_replicate hx; omega), by decide, by rw [nv_rep]; simp [nv], rfl⟩
  · exact key
  intro L x hx hL
  obtain ⟨i, out, c, hi, hol, hod, hc, hov, rfl⟩ := hx
  have hll := hl.2
  unfold h127_5
  rcases Nat.lt_or_ge i l.length with hlt | hge
  · have hx := getD_lt (by decide) hl.1 i
    have hn := nv_take_next (2 ^ 32) l i
    generalize hd : l.getD i 0 = d at *
    have hdm : d * m ≤ d * 2 ^ 31 := Nat.mul_le_mul_left _ hm
    have hdm2 : d * m < 2 ^ 63 := by omega
    have hstep := carry_step (B := 2 ^ 32) (V' := (2 ^ 32) ^ w * (nv (2 ^ 32) (l.take (i + 1)) * m)) (d := d * m) hol hov (by
      rw [hn, Nat.add_mul, Nat.mul_add, Nat.pow_add, Nat.mul_assoc, Nat.mul_assoc])
    have e1 := wu_mul d m (by omega)
    generalize d * m = dm at *
    simp (disch := omega) only [wadd, wadd1, wadd64, wsubn, wsub1, wmul64, ilt_t, ilt_f, ile_t, ile_f, igt_t, igt_f, ige_t, ige_f, ipos_t, ipos_f, igt0_t, igt0_f, nnn, beq0_t, beq0_f, bne0_t, bne0_f, Int.toNat_natCast, Int.toNat_zero, cond_true, cond_false, Bool.and_self, Bool.true_and, Bool.and_true, Bool.false_and, Bool.and_false, Bool.not_true, Bool.not_false, Bool.or_self, Bool.true_or, Bool.or_true, Bool.false_or, Bool.or_false, Wd_len, Wd_getD, hd, e1, wu_add, tmod32, quo32, wd_snoc, List.length_cons, List.length_nil, room8]
    exact hL _ ⟨i + 1, out ++ [(dm + c) % 2 ^ 32], (dm + c) / 2 ^ 32, by omega, by simp; omega, app_lt hod (Nat.mod_lt _ (by decide)), by omega, hstep, rfl⟩ (by simp only [Int.toNat_natCast]; omega)
  · have e : i = l.length := by omega
    subst e
    rw [List.take_length] at hov
    obtain ⟨h1, h2⟩ := carry_end (by decide) hol hod hov
    simp (disch := omega) only [wadd, wadd1, wadd64, wsubn, wsub1, wmul64, ilt_t, ilt_f, ile_t, ile_f, igt_t, igt_f, ige_t, ige_f, ipos_t, ipos_f, igt0_t, igt0_f, nnn, beq0_t, beq0_f, bne0_t, bne0_f, Int.toNat_natCast, Int.toNat_zero, cond_true, cond_false, Bool.and_self, Bool.true_and, Bool.and_true, Bool.false_and, Bool.and_false, Bool.not_true, Bool.not_false, Bool.or_self, Bool.true_or, Bool.or_true, Bool.false_or, Bool.or_false, Wd_len]
    rw [h1, h2]
theorem T127_eq (l : List Nat) (hl : Hs l) (hl2 : l.length ≤ 400000) (n : Nat) (hn : n ≤ 10000000) : T127 (Wd l, (n : Int), ()) = some (Dh (nv (2 ^ 32) l * 2 ^ n), ()) := by
  show t127 S158.pre S158.F W127_5 (Wd l) n = _
  unfold t127
  have hs : n % 32 < 32 := Nat.mod_lt _ (by decide)
  have hm : 2 ^ (n % 32) ≤ 2 ^ 31 := Nat.pow_le_pow_right (by decide) (by omega)
  have hw := W127_eq l hl (2 ^ (n % 32)) (n / 32) hm (by omega)
  have hV : (2 ^ 32) ^ (n / 32) * (nv (2 ^ 32) l * 2 ^ (n % 32)) = nv (2 ^ 32) l * 2 ^ n := by
    rw [← Nat.pow_mul, Nat.mul_left_comm, ← Nat.pow_add]
    congr 2
    omega
  rw [hV] at hw
  have hB : 0 < (2 ^ 32) ^ (n / 32 + l.length) := Nat.pow_pos (by decide)
  have hlt := nv_lt (B := 2 ^ 32) (by decide) l hl.1
  have hq : nv (2 ^ 32) l * 2 ^ n / (2 ^ 32) ^ (n / 32 + l.length) < 2 ^ 32 := by
    rw [Nat.div_lt_iff_lt_mul hB, ← hV, Nat.pow_add, Nat.mul_left_comm (2 ^ 32)]
    refine (Nat.mul_lt_mul_left (Nat.pow_pos (n := n / 32) (show 0 < 2 ^ 32 by decide))).2 ?_
    have h1 : nv (2 ^ 32) l * 2 ^ (n % 32) ≤ nv (2 ^ 32) l * 2 ^ 32 := Nat.mul_le_mul_left _ (by omega)
    have h2 : nv (2 ^ 32) l * 2 ^ 32 < (2 ^ 32) ^ l.length * 2 ^ 32 := Nat.mul_lt_mul_of_pos_right hlt (by decide)
    rw [Nat.mul_comm (2 ^ 32) ((2 ^ 32) ^ l.length)]
    omega
  have hlast : nv (2 ^ 32) (pd (2 ^ 32) (n / 32 + l.length) (nv (2 ^ 32) l * 2 ^ n % (2 ^ 32) ^ (n / 32 + l.length)) ++ [nv (2 ^ 32) l * 2 ^ n / (2 ^ 32) ^ (n / 32 + l.length)]) = nv (2 ^ 32) l * 2 ^ n := by
    rw [nv_snoc, pd_len, pd_nv (by decide) _ _ (Nat.mod_lt _ hB)]
    exact Nat.mod_add_div _ _
  have p0 := T158_h ⟨app_lt (pd_lt (by decide) (n / 32 + l.length) (nv (2 ^ 32) l * 2 ^ n % (2 ^ 32) ^ (n / 32 + l.length))) hq, by simp [pd_len]; omega⟩ hlast
  have hpl := pd_len (2 ^ 32) (n / 32 + l.length) (nv (2 ^ 32) l * 2 ^ n % (2 ^ 32) ^ (n / 32 + l.length))
  generalize nv (2 ^ 32) l * 2 ^ n / (2 ^ 32) ^ (n / 32 + l.length) = C at *
  generalize pd (2 ^ 32) (n / 32 + l.length) (nv (2 ^ 32) l * 2 ^ n % (2 ^ 32) ^ (n / 32 + l.length)) = O at *
  have e0 : decide (((n / 32 + l.length + 1 : Nat) : Int) * 8 ≤ 140737488355328) = true := decide_eq_true (by omega)
  have e1 : (1 : Int) = ((1 : Nat) : Int) := rfl
  simp (disch := omega) only [wadd, wadd1, wadd64, wsubn, wsub1, wmul64, ilt_t, ilt_f, ile_t, ile_f, igt_t, igt_f, ige_t, ige_f, ipos_t, ipos_f, igt0_t, igt0_f, nnn, beq0_t, beq0_f, bne0_t, bne0_f, Int.toNat_natCast, Int.toNat_zero, cond_true, cond_false, Bool.and_self, Bool.true_and, Bool.and_true, Bool.false_and, Bool.and_false, Bool.not_true, Bool.not_false, Bool.or_self, Bool.true_or, Bool.or_true, Bool.false_or, Bool.or_false, quoE32, tmodE32, wu_id, shlI_one, Wd_len, Wd_rep, e0, hw]
  show (bif roomOk ((Wd O).length + ((C : Int) :: []).length) 8 then (bif S158.pre (Wd O ++ ((C : Int) :: []), ()) then some (S158.F (Wd O ++ ((C : Int) :: []), ())) else none) else none) = _
  simp (disch := omega) only [wadd, wadd1, wadd64, wsubn, wsub1, wmul64, ilt_t, ilt_f, ile_t, ile_f, igt_t, igt_f, ige_t, ige_f, ipos_t, ipos_f, igt0_t, igt0_f, nnn, beq0_t, beq0_f, bne0_t, bne0_f, Int.toNat_natCast, Int.toNat_zero, cond_true, cond_false, Bool.and_self, Bool.true_and, Bool.and_true, Bool.false_and, Bool.and_false, Bool.not_true, Bool.not_false, Bool.or_self, Bool.true_or, Bool.or_true, Bool.false_or, Bool.or_false, wd_snoc, Wd_len, List.length_cons, List.length_nil, room8, pre158 p0, fun158 p0]
  rfl
theorem W128_eq (a b : List Nat) (ha : Hs a) (hb : Hs b) (K : Nat) (hK : K ≤ 1000000) (haK : a.length ≤ K) (hbK : b.length ≤ K) :
    W128_5 (((K : Int), (Wd a, (Wd b, ((0 : Int), ((), ((0 : Int), ())))))), ([], ())) =
      some (.inl (((), ((((nv (2 ^ 32) a + nv (2 ^ 32) b) / (2 ^ 32) ^ K : Nat) : Int), ())), (Wd (pd (2 ^ 32) K ((nv (2 ^ 32) a + nv (2 ^ 32) b) % (2 ^ 32) ^ K)), ()))) := by
  have key := lfix_ind (m128_5 S158.pre S158.F) (fun x => K - x.1.2.2.2.1.toNat)
    (fun x => ∃ (i : Nat) (out : List Nat) (c : Nat), i ≤ K ∧ out.length = i ∧ (∀ x ∈ out, x < 2 ^ 32) ∧ c ≤ 1 ∧ nv (2 ^ 32) out + (2 ^ 32) ^ i * c = nv (2 ^ 32) (a.take i) + nv (2 ^ 32) (b.take i) ∧ x = (((K : Int), (Wd a, (Wd b, ((i : Int), ((), ((c : Int), ())))))), (Wd out, ())))
    (fun _ => .inl (((), ((((nv (2 ^ 32) a + nv (2 ^ 32) b) / (2 ^ 32) ^ K : Nat) : Int), ())), (Wd (pd (2 ^ 32) K ((nv (2 ^ 32) a + nv (2 ^ 32) b) % (2 ^ 32) ^ K)), ()))) ?_ _
    ⟨0, [], 0, Nat.zero_le _, rfl, (fun x hx => by simp at hx), by decide, by simp [nv], rfl⟩
  · exact key
  intro L x hx hL
  obtain ⟨i, out, c, hi, hol, hod, hc, hov, rfl⟩ := hx
  have hla := ha.2
  have hlb := hb.2
  unfold h128_5
  rcases Nat.lt_or_ge i K with hlt | hge
  · have hxa := getD_lt (by decide) ha.1 i
    have hxb := getD_lt (by decide) hb.1 i
    have hna := nv_take_next (2 ^ 32) a i
    have hnb := nv_take_next (2 ^ 32) b i
    have hstep := carry_step (B := 2 ^ 32) (V' := nv (2 ^ 32) (a.take (i + 1)) + nv (2 ^ 32) (b.take (i + 1))) (d := a.getD i 0 + b.getD i 0) hol hov (by
      rw [hna, hnb, Nat.mul_add]; omega)
    have hza : a.length ≤ i → a.getD i 0 = 0 := fun h => by rw [List.getD_eq_getElem?_getD, List.getElem?_eq_none h]; rfl
    have hzb : b.length ≤ i → b.getD i 0 = 0 := fun h => by rw [List.getD_eq_getElem?_getD, List.getElem?_eq_none h]; rfl
    have hgo := fun s => hL (((K : Int), (Wd a, (Wd b, (((i + 1 : Nat) : Int), ((), ((s : Int), ())))))), (Wd (out ++ [(a.getD i 0 + b.getD i 0 + c) % 2 ^ 32]), ()))
    have hgo := hgo (((a.getD i 0 + b.getD i 0 + c) / 2 ^ 32 : Nat)) ⟨i + 1, _, (a.getD i 0 + b.getD i 0 + c) / 2 ^ 32, by omega, by rw [List.length_append, hol]; rfl, app_lt hod (Nat.mod_lt _ (by decide)), by omega, hstep, rfl⟩ (by simp only [Int.toNat_natCast]; omega)
    have hgo' : ∀ s : Nat, s = a.getD i 0 + b.getD i 0 + c → L (((K : Int), (Wd a, (Wd b, (((i + 1 : Nat) : Int), ((), (((s / 2 ^ 32 : Nat) : Int), ())))))), (Wd (out ++ [s % 2 ^ 32]), ())) = L (((K : Int), (Wd a, (Wd b, (((i + 1 : Nat) : Int), ((), ((((a.getD i 0 + b.getD i 0 + c) / 2 ^ 32 : Nat) : Int), ())))))), (Wd (out ++ [(a.getD i 0 + b.getD i 0 + c) % 2 ^ 32]), ())) := fun s hs => by rw [hs]
    generalize hda : a.getD i 0 = da at *
    generalize hdb : b.getD i 0 = db at *
    rcases Nat.lt_or_ge i a.length with hia | hia <;> rcases Nat.lt_or_ge i b.length with hib | hib
    · simp (disch := omega) only [wadd, wadd1, wadd64, wsubn, wsub1, wmul64, ilt_t, ilt_f, ile_t, ile_f, igt_t, igt_f, ige_t, ige_f, ipos_t, ipos_f, igt0_t, igt0_f, nnn, beq0_t, beq0_f, bne0_t, bne0_f, Int.toNat_natCast, Int.toNat_zero, cond_true, cond_false, Bool.and_self, Bool.true_and, Bool.and_true, Bool.false_and, Bool.and_false, Bool.not_true, Bool.not_false, Bool.or_self, Bool.true_or, Bool.or_true, Bool.false_or, Bool.or_false, Wd_len, Wd_getD, hda, hdb, wu_add, tmod32, quo32, wd_snoc, List.length_cons, List.length_nil, room8]
      exact (hgo' (c + da + db) (by omega)).trans hgo
    · have := hzb hib
      simp (disch := omega) only [wadd, wadd1, wadd64, wsubn, wsub1, wmul64, ilt_t, ilt_f, ile_t, ile_f, igt_t, igt_f, ige_t, ige_f, ipos_t, ipos_f, igt0_t, igt0_f, nnn, beq0_t, beq0_f, bne0_t, bne0_f, Int.toNat_natCast, Int.toNat_zero, cond_true, cond_false, Bool.and_self, Bool.true_and, Bool.and_true, Bool.false_and, Bool.and_false, Bool.not_true, Bool.not_false, Bool.or_self, Bool.true_or, Bool.or_true, Bool.false_or, Bool.or_false, Wd_len, Wd_getD, hda, hdb, wu_add, tmod32, quo32, wd_snoc, List.length_cons, List.length_nil, room8]
      exact (hgo' (c + da) (by omega)).trans hgo
    · have := hza hia
      simp (disch := omega) only [wadd, wadd1, wadd64, wsubn, wsub1, wmul64, ilt_t, ilt_f, ile_t, ile_f, igt_t, igt_f, ige_t, ige_f, ipos_t, ipos_f, igt0_t, igt0_f, nnn, beq0_t, beq0_f, bne0_t, bne0_f, Int.toNat_natCast, Int.toNat_zero, cond_true, cond_false, Bool.and_self, Bool.true_and, Bool.and_true, Bool.false_and, Bool.and_false, Bool.not_true, Bool.not_false, Bool.or_self, Bool.true_or, Bool.or_true, Bool.false_or, Bool.or_false, Wd_len, Wd_getD, hda, hdb, wu_add, tmod32, quo32, wd_snoc, List.length_cons, List.length_nil, room8]
      exact (hgo' (c + db) (by omega)).trans hgo
    · have := hza hia
      have := hzb hib
      simp (disch := omega) only [wadd, wadd1, wadd64, wsubn, wsub1, wmul64, ilt_t, ilt_f, ile_t, ile_f, igt_t, igt_f, ige_t, ige_f, ipos_t, ipos_f, igt0_t, igt0_f, nnn, beq0_t, beq0_f, bne0_t, bne0_f, Int.toNat_natCast, Int.toNat_zero, cond_true, cond_false, Bool.and_self, Bool.true_and, Bool.and_true, Bool.false_and, Bool.and_false, Bool.not_true, Bool.not_false, Bool.or_self, Bool.true_or, Bool.or_true, Bool.false_or, Bool.or_false, Wd_len, Wd_getD, hda, hdb, wu_add, tmod32, quo32, wd_snoc, List.length_cons, List.length_nil, room8]
      exact (hgo' c (by omega)).trans hgo
  · have e : i = K := by omega
    subst e
    rw [List.take_of_length_le haK, List.take_of_length_le hbK] at hov
    obtain ⟨h1, h2⟩ := carry_end (by decide) hol hod hov
    simp (disch := omega) only [wadd, wadd1, wadd64, wsubn, wsub1, wmul64, ilt_t, ilt_f, ile_t, ile_f, igt_t, igt_f, ige_t, ige_f, ipos_t, ipos_f, igt0_t, igt0_f, nnn, beq0_t, beq0_f, bne0_t, bne0_f, Int.toNat_natCast, Int.toNat_zero, cond_true, cond_false, Bool.and_self, Bool.true_and, Bool.and_true, Bool.false_and, Bool.and_false, Bool.not_true, Bool.not_false, Bool.or_self, Bool.true_or, Bool.or_true, Bool.false_or, Bool.or_false, Wd_len]
    rw [h1, h2]
theorem T128_eq (a b : List Nat) (ha : Hs a) (hb : Hs b) (ha2 : a.length ≤ 400000) (hb2 : b.length ≤ 400000) : T128 (Wd a, Wd b, ()) = some (Dh (nv (2 ^ 32) a + nv (2 ^ 32) b), ()) := by
  show t128 S158.pre S158.F W128_5 (Wd a) (Wd b) = _
  unfold t128
  have hKe : ∃ K : Nat, (if ((Wd b).length : Int) > ((Wd a).length : Int) then ((Wd b).length : Int) else ((Wd a).length : Int)) = (K : Int) ∧ a.length ≤ K ∧ b.length ≤ K ∧ K ≤ 400000 := by
    rw [Wd_len, Wd_len]
    by_cases h : (b.length : Int) > (a.length : Int)
    · exact ⟨b.length, by rw [if_pos h], by omega, Nat.le_refl _, hb2⟩
    · exact ⟨a.length, by rw [if_neg h], Nat.le_refl _, by omega, ha2⟩
  obtain ⟨K, hK, haK, hbK, hK2⟩ := hKe
  have hw := W128_eq a b ha hb K (by omega) haK hbK
  have hB : 0 < (2 ^ 32) ^ K := Nat.pow_pos (by decide)
  have hla := Nat.lt_of_lt_of_le (nv_lt (B := 2 ^ 32) (by decide) a ha.1) (Nat.pow_le_pow_right (by decide) haK)
  have hlb := Nat.lt_of_lt_of_le (nv_lt (B := 2 ^ 32) (by decide) b hb.1) (Nat.pow_le_pow_right (by decide) hbK)
  have hq : (nv (2 ^ 32) a + nv (2 ^ 32) b) / (2 ^ 32) ^ K < 2 ^ 32 := by
    rw [Nat.div_lt_iff_lt_mul hB]
    have : 2 * (2 ^ 32) ^ K ≤ 2 ^ 32 * (2 ^ 32) ^ K := Nat.mul_le_mul_right _ (by decide)
    omega
  have hlast : nv (2 ^ 32) (pd (2 ^ 32) K ((nv (2 ^ 32) a + nv (2 ^ 32) b) % (2 ^ 32) ^ K) ++ [(nv (2 ^ 32) a + nv (2 ^ 32) b) / (2 ^ 32) ^ K]) = nv (2 ^ 32) a + nv (2 ^ 32) b := by
    rw [nv_snoc, pd_len, pd_nv (by decide) _ _ (Nat.mod_lt _ hB)]
    exact Nat.mod_add_div _ _
  have p0 := T158_h ⟨app_lt (pd_lt (by decide) K ((nv (2 ^ 32) a + nv (2 ^ 32) b) % (2 ^ 32) ^ K)) hq, by simp [pd_len]; omega⟩ hlast
  have hpl := pd_len (2 ^ 32) K ((nv (2 ^ 32) a + nv (2 ^ 32) b) % (2 ^ 32) ^ K)
  generalize (nv (2 ^ 32) a + nv (2 ^ 32) b) / (2 ^ 32) ^ K = C at *
  generalize pd (2 ^ 32) K ((nv (2 ^ 32) a + nv (2 ^ 32) b) % (2 ^ 32) ^ K) = O at *
  have e0 : decide (((K + 1 : Nat) : Int) * 8 ≤ 140737488355328) = true := decide_eq_true (by omega)
  simp (disch := omega) only [hK, wadd, wadd1, wadd64, wsubn, wsub1, wmul64, ilt_t, ilt_f, ile_t, ile_f, igt_t, igt_f, ige_t, ige_f, ipos_t, ipos_f, igt0_t, igt0_f, nnn, beq0_t, beq0_f, bne0_t, bne0_f, Int.toNat_natCast, Int.toNat_zero, cond_true, cond_false, Bool.and_self, Bool.true_and, Bool.and_true, Bool.false_and, Bool.and_false, Bool.not_true, Bool.not_false, Bool.or_self, Bool.true_or, Bool.or_true, Bool.false_or, Bool.or_false, List.replicate_zero, e0, hw]
  show (bif roomOk ((Wd O).length + ((C : Int) :: []).length) 8 then (bif S158.pre (Wd O ++ ((C : Int) :: []), ()) then some (S158.F (Wd O ++ ((C : Int) :: []), ())) else none) else none) = _
  simp (disch := omega) only [wadd, wadd1, wadd64, wsubn, wsub1, wmul64, ilt_t, ilt_f, ile_t, ile_f, igt_t, igt_f, ige_t, ige_f, ipos_t, ipos_f, igt0_t, igt0_f, nnn, beq0_t, beq0_f, bne0_t, bne0_f, Int.toNat_natCast, Int.toNat_zero, cond_true, cond_false, Bool.and_self, Bool.true_and, Bool.and_true, Bool.false_and, Bool.and_false, Bool.not_true, Bool.not_false, Bool.or_self, Bool.true_or, Bool.or_true, Bool.false_or, Bool.or_false, wd_snoc, Wd_len, List.length_cons, List.length_nil, room8, pre158 p0, fun158 p0]
  rfl
end VL
namespace VL
open Go Vx
theorem nv_drop_next (B : Nat) (l : List Nat) (i : Nat) (h : i < l.length) : nv B (l.drop i) = l.getD i 0 + B * nv B (l.drop (i + 1)) := by
  rw [List.drop_eq_getElem_cons h, List.getD_eq_getElem?_getD, List.getElem?_eq_getElem h]; rfl
theorem take_lt {B : Nat} (hB : 2 ≤ B) {l : List Nat} (h : ∀ x ∈ l, x < B) (i : Nat) : nv B (l.take i) < B ^ i := by
  have := nv_lt hB (l.take i) fun x hx => h x (List.mem_of_mem_take hx)
  refine Nat.lt_of_lt_of_le this (Nat.pow_le_pow_right (by omega) ?_)
  rw [List.length_take]
  exact Nat.min_le_left _ _
theorem split_lt {P A A' X Y : Nat} (h : A < P) (hxy : X < Y) : A + P * X < A' + P * Y := by
  have : P * (X + 1) ≤ P * Y := Nat.mul_le_mul_left _ hxy
  rw [Nat.mul_add, Nat.mul_one] at this
  omega
theorem row_lt {B : Nat} (hB : 2 ≤ B) {a b : List Nat} (ha : ∀ x ∈ a, x < B) {i : Nat} (hia : i < a.length) (hib : i < b.length) (hd : nv B (a.drop (i + 1)) = nv B (b.drop (i + 1))) (h : a.getD i 0 < b.getD i 0) : nv B a < nv B b := by
  rw [nv_split B a i (by omega), nv_split B b i (by omega), nv_drop_next B a i hia, nv_drop_next B b i hib, hd]
  exact split_lt (take_lt hB ha i) (by omega)
theorem W129_eq (a b : List Nat) (ha : Hs a) (hb : Hs b) (hab : a.length = b.length) :
    W129_6 ((Wd a, (Wd b, ((a.length : Int) - 1, ()))), ()) = some (if nv (2 ^ 32) a = nv (2 ^ 32) b then .inl ((), ()) else .inr (((if nv (2 ^ 32) a < nv (2 ^ 32) b then (-1 : Int) else 1), ()), ())) := by
  have key := lfix_ind m129_6 (fun x => (x.1.2.2.1 + 1).toNat)
    (fun x => ∃ j : Nat, j ≤ a.length ∧ nv (2 ^ 32) (a.drop j) = nv (2 ^ 32) (b.drop j) ∧ x = ((Wd a, (Wd b, ((j : Int) - 1, ()))), ()))
    (fun _ => if nv (2 ^ 32) a = nv (2 ^ 32) b then .inl ((), ()) else .inr (((if nv (2 ^ 32) a < nv (2 ^ 32) b then (-1 : Int) else 1), ()), ())) ?_ ((Wd a, (Wd b, ((a.length : Int) - 1, ()))), ())
    ⟨a.length, Nat.le_refl _, by rw [List.drop_length, hab, List.drop_length], rfl⟩
  · exact key
  intro L x hx hL
  obtain ⟨j, hj, hd, rfl⟩ := hx
  have hla := ha.2
  have hlb := hb.2
  unfold h129_6
  rcases j with _ | i
  · have e1 : decide ((((0 : Nat) : Int) - 1) ≥ 0) = false := rfl
    rw [List.drop_zero, List.drop_zero] at hd
    simp only [e1, cond_false, if_pos hd]
  · have e0 : (((i + 1 : Nat) : Int) - 1) = (i : Int) := by omega
    have e2 : IntKind.wrap .i64 ((i : Int) - 1) = (i : Int) - 1 := wrapI (by omega)
    have e3 : decide ((i : Int) ≥ 0) = true := decide_eq_true (by omega)
    simp (disch := omega) only [e0, e2, e3, wadd, wadd1, wadd64, wsubn, wsub1, wmul64, ilt_t, ilt_f, ile_t, ile_f, igt_t, igt_f, ige_t, ige_f, ipos_t, ipos_f, igt0_t, igt0_f, nnn, beq0_t, beq0_f, bne0_t, bne0_f, Int.toNat_natCast, Int.toNat_zero, cond_true, cond_false, Bool.and_self, Bool.true_and, Bool.and_true, Bool.false_and, Bool.and_false, Bool.not_true, Bool.not_false, Bool.or_self, Bool.true_or, Bool.or_true, Bool.false_or, Bool.or_false, Wd_len, Wd_getD]
    rcases Nat.lt_trichotomy (a.getD i 0) (b.getD i 0) with h | h | h
    · have hr := row_lt (by decide) ha.1 (by omega) (by omega) hd h
      simp (disch := omega) only [wadd, wadd1, wadd64, wsubn, wsub1, wmul64, ilt_t, ilt_f, ile_t, ile_f, igt_t, igt_f, ige_t, ige_f, ipos_t, ipos_f, igt0_t, igt0_f, nnn, beq0_t, beq0_f, bne0_t, bne0_f, Int.toNat_natCast, Int.toNat_zero, cond_true, cond_false, Bool.and_self, Bool.true_and, Bool.and_true, Bool.false_and, Bool.and_false, Bool.not_true, Bool.not_false, Bool.or_self, Bool.true_or, Bool.or_true, Bool.false_or, Bool.or_false]
      rw [if_neg (by omega), if_pos hr]
    · simp (disch := omega) only [wadd, wadd1, wadd64, wsubn, wsub1, wmul64, ilt_t, ilt_f, ile_t, ile_f, igt_t, igt_f, ige_t, ige_f, ipos_t, ipos_f, igt0_t, igt0_f, nnn, beq0_t, beq0_f, bne0_t, bne0_f, Int.toNat_natCast, Int.toNat_zero, cond_true, cond_false, Bool.and_self, Bool.true_and, Bool.and_true, Bool.false_and, Bool.and_false, Bool.not_true, Bool.not_false, Bool.or_self, Bool.true_or, Bool.or_true, Bool.false_or, Bool.or_false]
      refine hL _ ⟨i, by omega, ?_, rfl⟩ (by simp only [Int.toNat_natCast]; omega)
      rw [nv_drop_next _ a i (by omega), nv_drop_next _ b i (by omega), hd, h]
    · have hr := row_lt (by decide) hb.1 (by omega) (by omega) hd.symm h
      simp (disch := omega) only [wadd, wadd1, wadd64, wsubn, wsub1, wmul64, ilt_t, ilt_f, ile_t, ile_f, igt_t, igt_f, ige_t, ige_f, ipos_t, ipos_f, igt0_t, igt0_f, nnn, beq0_t, beq0_f, bne0_t, bne0_f, Int.toNat_natCast, Int.toNat_zero, cond_true, cond_false, Bool.and_self, Bool.true_and, Bool.and_true, Bool.false_and, Bool.and_false, Bool.not_true, Bool.not_false, Bool.or_self, Bool.true_or, Bool.or_true, Bool.false_or, Bool.or_false]
      rw [if_neg (by omega), if_neg (by omega)]
theorem dg_len_lt {B : Nat} (hB : 2 ≤ B) {x y : Nat} (h : (dg B x).length < (dg B y).length) : x < y := by
  have h1 := dg_len_gt hB x
  rcases Nat.lt_or_ge x y with h2 | h2
  · exact h2
  · have := dg_len_le hB (dg B x).length y (by omega)
    omega
theorem T129_eq (x y : Nat) (hx : x < 2 ^ 100000) (hy : y < 2 ^ 100000) : T129 (Dh x, Dh y, ()) = some (if x = y then 0 else if x < y then -1 else 1, ()) := by
  show t129 W129_6 (Dh x) (Dh y) = _
  unfold t129
  have hX := Hs.dg hx
  have hY := Hs.dg hy
  have hlx := hX.2
  have hly := hY.2
  rcases Nat.lt_trichotomy (dg (2 ^ 32) x).length (dg (2 ^ 32) y).length with h | h | h
  · have hr := dg_len_lt (by decide) h
    have e0 : (((dg (2 ^ 32) x).length : Int) != ((dg (2 ^ 32) y).length : Int)) = true := by rw [nbne]; exact bne_iff_ne.2 (by omega)
    unfold Dh
    simp (disch := omega) only [wadd, wadd1, wadd64, wsubn, wsub1, wmul64, ilt_t, ilt_f, ile_t, ile_f, igt_t, igt_f, ige_t, ige_f, ipos_t, ipos_f, igt0_t, igt0_f, nnn, beq0_t, beq0_f, bne0_t, bne0_f, Int.toNat_natCast, Int.toNat_zero, cond_true, cond_false, Bool.and_self, Bool.true_and, Bool.and_true, Bool.false_and, Bool.and_false, Bool.not_true, Bool.not_false, Bool.or_self, Bool.true_or, Bool.or_true, Bool.false_or, Bool.or_false, Wd_len, e0]
    rw [if_neg (by omega), if_pos hr]
  · have hw := W129_eq _ _ hX hY h
    rw [nv_Dh, nv_Dh] at hw
    have e0 : (((dg (2 ^ 32) x).length : Int) != ((dg (2 ^ 32) y).length : Int)) = false := by rw [nbne, h]; simp
    have e2 : IntKind.wrap .i64 (((dg (2 ^ 32) x).length : Int) - 1) = ((dg (2 ^ 32) x).length : Int) - 1 := wrapI (by omega)
    unfold Dh
    simp only [Wd_len, e0, cond_false, e2, hw]
    by_cases he : x = y
    · rw [if_pos he, if_pos he]
    · rw [if_neg he, if_neg he]
  · have hr := dg_len_lt (by decide) h
    have e0 : (((dg (2 ^ 32) x).length : Int) != ((dg (2 ^ 32) y).length : Int)) = true := by rw [nbne]; exact bne_iff_ne.2 (by omega)
    unfold Dh
    simp (disch := omega) only [wadd, wadd1, wadd64, wsubn, wsub1, wmul64, ilt_t, ilt_f, ile_t, ile_f, igt_t, igt_f, ige_t, ige_f, ipos_t, ipos_f, igt0_t, igt0_f, nnn, beq0_t, beq0_f, bne0_t, bne0_f, Int.toNat_natCast, Int.toNat_zero, cond_true, cond_false, Bool.and_self, Bool.true_and, Bool.and_true, Bool.false_and, Bool.and_false, Bool.not_true, Bool.not_false, Bool.or_self, Bool.true_or, Bool.or_true, Bool.false_or, Bool.or_false, Wd_len, e0]
    rw [if_neg (by omega), if_neg (by omega)]
theorem wu_add32 (a : Nat) (h : a < 2 ^ 33) : IntKind.wrap .u64 ((a : Int) + 4294967296) = ((a + 2 ^ 32 : Nat) : Int) := by rw [wrapU (by omega)]; omega
theorem wu_sub (a b : Nat) (h : b ≤ a ∧ a < 2 ^ 64) : IntKind.wrap .u64 ((a : Int) - (b : Int)) = ((a - b : Nat) : Int) := by
  rw [wrapU (by omega)]; omega
theorem set_rep {out : List Nat} {n i v : Nat} (hol : out.length = i) (h : i < n) : (out ++ List.replicate (n - i) 0).set i v = (out ++ [v]) ++ List.replicate (n - (i + 1)) 0 := by
  have e : n - i = (n - (i + 1)) + 1 := by omega
  rw [e, List.replicate_succ, List.set_append_right _ _ (by omega), hol, Nat.sub_self, List.set_cons_zero, List.append_assoc]
  rfl
theorem minus_step {P B A A' O a b c c' v : Nat} (h : A + P * c = A' + O) (h2 : a + B * c' = b + c + v) : A + P * a + P * B * c' = A' + P * b + (O + P * v) := by
  have h3 : P * (a + B * c') = P * (b + c + v) := by rw [h2]
  rw [Nat.mul_add, Nat.mul_add, Nat.mul_add, ← Nat.mul_assoc] at h3
  omega
theorem W130_eq (a b : List Nat) (ha : Hs a) (hb : Hs b) (hba : b.length ≤ a.length) (hv : nv (2 ^ 32) b ≤ nv (2 ^ 32) a) :
    W130_4 (((0 : Int), (Wd b, (Wd a, ((0 : Int), ((), ()))))), (Wd (List.replicate a.length 0), ())) = some (.inl (((), ()), (Wd (pd (2 ^ 32) a.length (nv (2 ^ 32) a - nv (2 ^ 32) b)), ()))) := by
  have key := lfix_ind (m130_4 S158.pre S158.F) (fun x => a.length - x.1.2.2.2.1.toNat)
    (fun x => ∃ (i : Nat) (out : List Nat) (c : Nat), i ≤ a.length ∧ out.length = i ∧ (∀ x ∈ out, x < 2 ^ 32) ∧ c ≤ 1 ∧ nv (2 ^ 32) (a.take i) + (2 ^ 32) ^ i * c = nv (2 ^ 32) (b.take i) + nv (2 ^ 32) out ∧
      x = (((c : Int), (Wd b, (Wd a, ((i : Int), ((), ()))))), (Wd (out ++ List.replicate (a.length - i) 0), ())))
    (fun _ => .inl (((), ()), (Wd (pd (2 ^ 32) a.length (nv (2 ^ 32) a - nv (2 ^ 32) b)), ()))) ?_ (((0 : Int), (Wd b, (Wd a, ((0 : Int), ((), ()))))), (Wd (List.replicate a.length 0), ()))
    ⟨0, [], 0, Nat.zero_le _, rfl, (fun x hx => by simp at hx), by decide, by simp [nv], rfl⟩
  · exact key
  intro L x hx hL
  obtain ⟨i, out, c, hi, hol, hod, hc, hov, rfl⟩ := hx
  have hla := ha.2
  unfold h130_4
  rcases Nat.lt_or_ge i a.length with hlt | hge
  · have hxa := getD_lt (by decide) ha.1 i
    have hxb := getD_lt (by decide) hb.1 i
    have hna := nv_take_next (2 ^ 32) a i
    have hnb := nv_take_next (2 ^ 32) b i
    have hzb : b.length ≤ i → b.getD i 0 = 0 := fun h => by rw [List.getD_eq_getElem?_getD, List.getElem?_eq_none h]; rfl
    have hset := fun v => set_rep (v := v) hol hlt
    have hlen : (out ++ List.replicate (a.length - i) 0).length = a.length := by simp; omega
    generalize hda : a.getD i 0 = da at *
    generalize hdb : b.getD i 0 = db at *
    have hgo : ∀ c' v : Nat, c' ≤ 1 → v < 2 ^ 32 → da + 2 ^ 32 * c' = db + c + v → L (((c' : Int), (Wd b, (Wd a, (((i + 1 : Nat) : Int), ((), ()))))), (Wd (out ++ [v] ++ List.replicate (a.length - (i + 1)) 0), ())) = _ := fun c' v h1 h2 h3 =>
      hL _ ⟨i + 1, out ++ [v], c', by omega, by simp; omega, app_lt hod h2, h1, by
        rw [hna, hnb, nv_snoc, hol, Nat.pow_succ]
        exact minus_step hov h3, rfl⟩ (by simp only [Int.toNat_natCast]; omega)
    have hg1 := fun v => hgo 1 v (Nat.le_refl _)
    have hg0 := fun v => hgo 0 v (Nat.zero_le _)
    rw [show ((1 : Nat) : Int) = 1 from rfl] at hg1
    rw [show ((0 : Nat) : Int) = 0 from rfl] at hg0
    rcases Nat.lt_or_ge i b.length with hib | hib
    · rcases Nat.lt_or_ge da (c + db) with h | h
      · simp (disch := omega) only [wadd, wadd1, wadd64, wsubn, wsub1, wmul64, ilt_t, ilt_f, ile_t, ile_f, igt_t, igt_f, ige_t, ige_f, ipos_t, ipos_f, igt0_t, igt0_f, nnn, beq0_t, beq0_f, bne0_t, bne0_f, Int.toNat_natCast, Int.toNat_zero, cond_true, cond_false, Bool.and_self, Bool.true_and, Bool.and_true, Bool.false_and, Bool.and_false, Bool.not_true, Bool.not_false, Bool.or_self, Bool.true_or, Bool.or_true, Bool.false_or, Bool.or_false, Wd_len, Wd_getD, hda, hdb, wu_add, wu_add32, wu_sub, hlen, Wd_set, hset]
        exact hg1 _ (by omega) (by omega)
      · simp (disch := omega) only [wadd, wadd1, wadd64, wsubn, wsub1, wmul64, ilt_t, ilt_f, ile_t, ile_f, igt_t, igt_f, ige_t, ige_f, ipos_t, ipos_f, igt0_t, igt0_f, nnn, beq0_t, beq0_f, bne0_t, bne0_f, Int.toNat_natCast, Int.toNat_zero, cond_true, cond_false, Bool.and_self, Bool.true_and, Bool.and_true, Bool.false_and, Bool.and_false, Bool.not_true, Bool.not_false, Bool.or_self, Bool.true_or, Bool.or_true, Bool.false_or, Bool.or_false, Wd_len, Wd_getD, hda, hdb, wu_add, wu_add32, wu_sub, hlen, Wd_set, hset]
        exact hg0 _ (by omega) (by omega)
    · have := hzb hib
      rcases Nat.lt_or_ge da c with h | h
      · simp (disch := omega) only [wadd, wadd1, wadd64, wsubn, wsub1, wmul64, ilt_t, ilt_f, ile_t, ile_f, igt_t, igt_f, ige_t, ige_f, ipos_t, ipos_f, igt0_t, igt0_f, nnn, beq0_t, beq0_f, bne0_t, bne0_f, Int.toNat_natCast, Int.toNat_zero, cond_true, cond_false, Bool.and_self, Bool.true_and, Bool.and_true, Bool.false_and, Bool.and_false, Bool.not_true, Bool.not_false, Bool.or_self, Bool.true_or, Bool.or_true, Bool.false_or, Bool.or_false, Wd_len, Wd_getD, hda, hdb, wu_add, wu_add32, wu_sub, hlen, Wd_set, hset]
        exact hg1 _ (by omega) (by omega)
      · simp (disch := omega) only [wadd, wadd1, wadd64, wsubn, wsub1, wmul64, ilt_t, ilt_f, ile_t, ile_f, igt_t, igt_f, ige_t, ige_f, ipos_t, ipos_f, igt0_t, igt0_f, nnn, beq0_t, beq0_f, bne0_t, bne0_f, Int.toNat_natCast, Int.toNat_zero, cond_true, cond_false, Bool.and_self, Bool.true_and, Bool.and_true, Bool.false_and, Bool.and_false, Bool.not_true, Bool.not_false, Bool.or_self, Bool.true_or, Bool.or_true, Bool.false_or, Bool.or_false, Wd_len, Wd_getD, hda, hdb, wu_add, wu_add32, wu_sub, hlen, Wd_set, hset]
        exact hg0 _ (by omega) (by omega)
  · have e : i = a.length := by omega
    subst e
    rw [List.take_length, List.take_of_length_le hba] at hov
    have hlt := nv_lt (B := 2 ^ 32) (by decide) out hod
    rw [hol] at hlt
    have hc0 : (2 ^ 32) ^ a.length * c = 0 := by
      rcases (show c = 0 ∨ c = 1 by omega) with h | h
      · rw [h, Nat.mul_zero]
      · rw [h, Nat.mul_one] at hov; omega
    have ho := pd_at (B := 2 ^ 32) (v := nv (2 ^ 32) a - nv (2 ^ 32) b) (by decide) hod hol (by omega)
    rw [Nat.sub_self, List.replicate_zero, List.append_nil]
    simp (disch := omega) only [wadd, wadd1, wadd64, wsubn, wsub1, wmul64, ilt_t, ilt_f, ile_t, ile_f, igt_t, igt_f, ige_t, ige_f, ipos_t, ipos_f, igt0_t, igt0_f, nnn, beq0_t, beq0_f, bne0_t, bne0_f, Int.toNat_natCast, Int.toNat_zero, cond_true, cond_false, Bool.and_self, Bool.true_and, Bool.and_true, Bool.false_and, Bool.and_false, Bool.not_true, Bool.not_false, Bool.or_self, Bool.true_or, Bool.or_true, Bool.false_or, Bool.or_false, Wd_len]
    rw [← ho]
theorem T130_eq (a b : List Nat) (ha : Hs a) (hb : Hs b) (hba : b.length ≤ a.length) (hv : nv (2 ^ 32) b ≤ nv (2 ^ 32) a) : T130 (Wd a, Wd b, ()) = some (Dh (nv (2 ^ 32) a - nv (2 ^ 32) b), ()) := by
  show t130 S158.pre S158.F W130_4 (Wd a) (Wd b) = _
  unfold t130
  have hw := W130_eq a b ha hb hba hv
  have hla := ha.2
  have hlt := nv_lt (B := 2 ^ 32) (by decide) a ha.1
  have p0 := T158_h (l := pd (2 ^ 32) a.length (nv (2 ^ 32) a - nv (2 ^ 32) b)) ⟨pd_lt (by decide) _ _, by rw [pd_len]; omega⟩ (pd_nv (by decide) _ _ (by omega))
  have e2 : decide ((a.length : Int) * 8 ≤ 140737488355328) = true := decide_eq_true (by omega)
  simp (disch := omega) only [wadd, wadd1, wadd64, wsubn, wsub1, wmul64, ilt_t, ilt_f, ile_t, ile_f, igt_t, igt_f, ige_t, ige_f, ipos_t, ipos_f, igt0_t, igt0_f, nnn, beq0_t, beq0_f, bne0_t, bne0_f, Int.toNat_natCast, Int.toNat_zero, cond_true, cond_false, Bool.and_self, Bool.true_and, Bool.and_true, Bool.false_and, Bool.and_false, Bool.not_true, Bool.not_false, Bool.or_self, Bool.true_or, Bool.or_true, Bool.false_or, Bool.or_false, Wd_len, e2, Wd_rep, hw]
  show (bif S158.pre (Wd (pd (2 ^ 32) a.length (nv (2 ^ 32) a - nv (2 ^ 32) b)), ()) then some (S158.F (Wd (pd (2 ^ 32) a.length (nv (2 ^ 32) a - nv (2 ^ 32) b)), ())) else none) = _
  simp only [pre158 p0, fun158 p0, cond_true]
  rfl
theorem dg_len_mono {B : Nat} (hB : 2 ≤ B) {x y : Nat} (h : y ≤ x) : (dg B y).length ≤ (dg B x).length := by
  rcases Nat.lt_or_ge (dg B x).length (dg B y).length with h1 | h1
  · have := dg_len_lt hB h1; omega
  · exact h1
theorem T130_h {x y : Nat} (hx : x < 2 ^ 100000) (h : y ≤ x) : T130 (Dh x, Dh y, ()) = some (Dh (x - y), ()) := by
  have := T130_eq (dg (2 ^ 32) x) (dg (2 ^ 32) y) (Hs.dg hx) (Hs.dg (by omega)) (dg_len_mono (by decide) h) (by rw [nv_Dh, nv_Dh]; exact h)
  rwa [nv_Dh, nv_Dh] at this
theorem Hs.len {n : Nat} (h : n < 2 ^ 100000) : (VL.dg (2 ^ 32) n).length ≤ 3125 := by
  have : n < (2 ^ 32) ^ 3125 := by rw [← Nat.pow_mul]; exact h
  exact dg_len_le (B := 2 ^ 32) (by decide) 3125 n this
theorem T127_h {x : Nat} (hx : x < 2 ^ 100000) (n : Nat) (hn : n ≤ 10000000) : T127 (Dh x, (n : Int), ()) = some (Dh (x * 2 ^ n), ()) := by
  have := T127_eq (dg (2 ^ 32) x) (Hs.dg hx) (by have := Hs.len hx; omega) n hn
  rwa [nv_Dh] at this
theorem T128_h {x y : Nat} (hx : x < 2 ^ 100000) (hy : y < 2 ^ 100000) : T128 (Dh x, Dh y, ()) = some (Dh (x + y), ()) := by
  have := T128_eq (dg (2 ^ 32) x) (dg (2 ^ 32) y) (Hs.dg hx) (Hs.dg hy) (by have := Hs.len hx; omega) (by have := Hs.len hy; omega)
  rwa [nv_Dh, nv_Dh] at this
theorem quo2u (x : Nat) (h : x < 2 ^ 64) : quoI .u64 (x : Int) 2 = ((x / 2 : Nat) : Int) := by
  unfold quoI
  have e : (x : Int).tdiv 2 = ((x / 2 : Nat) : Int) := rfl
  rw [e, wrapU (by omega)]
theorem quo2i (x : Nat) (h : x < 2 ^ 60) : quoI .i64 (x : Int) 2 = ((x / 2 : Nat) : Int) := by
  unfold quoI
  have e : (x : Int).tdiv 2 = ((x / 2 : Nat) : Int) := rfl
  rw [e, wrapI (by omega)]
theorem tmod2 (x : Nat) : Int.tmod (x : Int) 2 = ((x % 2 : Nat) : Int) := rfl
theorem wmul32 (a : Nat) (h : a < 2 ^ 56) : IntKind.wrap .i64 (32 * (a : Int)) = ((32 * a : Nat) : Int) := by rw [wrapI (by omega)]; omega
theorem blen_half {x : Nat} (h : x ≠ 0) : blen x = blen (x / 2) + 1 := by
  have := blen_shift (n := x) (k := 1)
  rcases Nat.lt_or_ge x 2 with h1 | h1
  · have : x = 1 := by omega
    subst this; decide
  · have := this (by omega)
    rw [this, Nat.pow_one]; omega
theorem W159_eq (x c : Nat) (hx : x < 2 ^ 64) (hc : c + blen x < 2 ^ 60) : W159_6 (((x : Int), ((c : Int), ())), ()) = some (.inl ((((c + blen x : Nat) : Int), ()), ())) := by
  have key := lfix_ind (m159_6 S158.pre S158.F) (fun y => y.1.1.toNat)
    (fun y => ∃ x' c' : Nat, x' < 2 ^ 64 ∧ c' + blen x' = c + blen x ∧ y = (((x' : Int), ((c' : Int), ())), ()))
    (fun _ => .inl ((((c + blen x : Nat) : Int), ()), ())) ?_ (((x : Int), ((c : Int), ())), ()) ⟨x, c, hx, rfl, rfl⟩
  · exact key
  intro L y hy hL
  obtain ⟨x', c', hx', hc', rfl⟩ := hy
  unfold h159_6
  rcases Nat.eq_zero_or_pos x' with rfl | hp
  · have : blen 0 = 0 := by decide
    rw [this, Nat.add_zero] at hc'
    rw [← hc']
    simp (disch := omega) only [wadd, wadd1, wadd64, wsubn, wsub1, wmul64, ilt_t, ilt_f, ile_t, ile_f, igt_t, igt_f, ige_t, ige_f, ipos_t, ipos_f, igt0_t, igt0_f, nnn, beq0_t, beq0_f, bne0_t, bne0_f, Int.toNat_natCast, Int.toNat_zero, cond_true, cond_false, Bool.and_self, Bool.true_and, Bool.and_true, Bool.false_and, Bool.and_false, Bool.not_true, Bool.not_false, Bool.or_self, Bool.true_or, Bool.or_true, Bool.false_or, Bool.or_false]
  · have hb := blen_half (x := x') (by omega)
    simp (disch := omega) only [wadd, wadd1, wadd64, wsubn, wsub1, wmul64, ilt_t, ilt_f, ile_t, ile_f, igt_t, igt_f, ige_t, ige_f, ipos_t, ipos_f, igt0_t, igt0_f, nnn, beq0_t, beq0_f, bne0_t, bne0_f, Int.toNat_natCast, Int.toNat_zero, cond_true, cond_false, Bool.and_self, Bool.true_and, Bool.and_true, Bool.false_and, Bool.and_false, Bool.not_true, Bool.not_false, Bool.or_self, Bool.true_or, Bool.or_true, Bool.false_or, Bool.or_false, quo2u]
    exact hL _ ⟨x' / 2, c' + 1, by omega, by omega, rfl⟩ (by simp only [Int.toNat_natCast]; omega)
theorem T159_h {n : Nat} (hn : n < 2 ^ 100000) : T159 (Dh n, ()) = some ((blen n : Int), ()) := by
  show t159 S158.pre S158.F W159_6 (Dh n) = _
  unfold t159
  have hH := Hs.dg hn
  have hl := Hs.len hn
  have p0 := T158_h hH (nv_Dh n)
  rw [show Wd (dg (2 ^ 32) n) = Dh n from rfl] at p0
  simp only [pre158 p0, fun158 p0, cond_true, Dh_len0]
  by_cases h0 : n = 0
  · subst h0; rfl
  · rw [decide_eq_false h0, cond_false]
    have hlen : 0 < (dg (2 ^ 32) n).length := by rw [dg_pos (by decide) (by omega)]; simp
    have ht := dg_trim (B := 2 ^ 32) (by decide) n
    have hlast := trim_last (dg (2 ^ 32) n) (by rw [ht]; exact hlen)
    rw [ht] at hlast
    have hnv := nv_Dh n
    rw [nv_split _ _ ((dg (2 ^ 32) n).length - 1) (by omega), nv_drop_next _ _ _ (by omega)] at hnv
    rw [show (dg (2 ^ 32) n).length - 1 + 1 = (dg (2 ^ 32) n).length by omega, List.drop_length] at hnv
    have htk := take_lt (B := 2 ^ 32) (by decide) hH.1 ((dg (2 ^ 32) n).length - 1)
    have htop := getD_lt (B := 2 ^ 32) (by decide) hH.1 ((dg (2 ^ 32) n).length - 1)
    have hb : blen n = 32 * ((dg (2 ^ 32) n).length - 1) + blen ((dg (2 ^ 32) n).getD ((dg (2 ^ 32) n).length - 1) 0) := by
      rw [← Nat.pow_mul] at hnv htk
      have := blen_split htk (b := (dg (2 ^ 32) n).getD ((dg (2 ^ 32) n).length - 1) 0) (by omega)
      have hnv2 := hnv
      simp only [nv, Nat.mul_zero, Nat.add_zero] at hnv2
      rw [hnv2] at this
      exact this
    have hbb := blen_bound htop
    have hw := W159_eq ((dg (2 ^ 32) n).getD ((dg (2 ^ 32) n).length - 1) 0) (32 * ((dg (2 ^ 32) n).length - 1)) (by omega) (by omega)
    rw [← hb] at hw
    unfold Dh
    simp (disch := omega) only [wadd, wadd1, wadd64, wsubn, wsub1, wmul64, ilt_t, ilt_f, ile_t, ile_f, igt_t, igt_f, ige_t, ige_f, ipos_t, ipos_f, igt0_t, igt0_f, nnn, beq0_t, beq0_f, bne0_t, bne0_f, Int.toNat_natCast, Int.toNat_zero, cond_true, cond_false, Bool.and_self, Bool.true_and, Bool.and_true, Bool.false_and, Bool.and_false, Bool.not_true, Bool.not_false, Bool.or_self, Bool.true_or, Bool.or_true, Bool.false_or, Bool.or_false, Wd_len, Wd_getD, wmul32, hw]
theorem wu_mul32 (a : Nat) (h : a < 2 ^ 32) : IntKind.wrap .u64 ((a : Int) * 4294967296) = ((a * 2 ^ 32 : Nat) : Int) := by rw [wrapU (by omega)]; omega
theorem nv_set' (B : Nat) (l : List Nat) (i x y : Nat) (hi : i < l.length) (hy : l.getD i 0 + y = x) : nv B (l.set i x) = nv B l + B ^ i * y := by
  have := nv_set B l i x hi
  rw [← hy, Nat.mul_add] at this
  rw [hy] at this
  omega
theorem W162_eq (a : List Nat) (ha : Hs a) :
    W162_3 ((Wd a, ((0 : Int), ((), ()))), (Wd (List.replicate ((a.length + 1) / 2) 0), ())) = some (.inl (((), ()), (Wd (pd (2 ^ 64) ((a.length + 1) / 2) (nv (2 ^ 32) a)), ()))) := by
  have key := lfix_ind (m162_3 S158.pre S158.F) (fun x => a.length - x.1.2.1.toNat)
    (fun x => ∃ (i : Nat) (out : List Nat), i ≤ a.length ∧ out.length = (a.length + 1) / 2 ∧ (∀ x ∈ out, x < 2 ^ 64) ∧ nv (2 ^ 64) out = nv (2 ^ 32) (a.take i) ∧ (∀ j, i ≤ 2 * j → out.getD j 0 = 0) ∧ (i % 2 = 1 → out.getD (i / 2) 0 < 2 ^ 32) ∧
      x = ((Wd a, ((i : Int), ((), ()))), (Wd out, ())))
    (fun _ => .inl (((), ()), (Wd (pd (2 ^ 64) ((a.length + 1) / 2) (nv (2 ^ 32) a)), ()))) ?_ ((Wd a, ((0 : Int), ((), ()))), (Wd (List.replicate ((a.length + 1) / 2) 0), ()))
    ⟨0, List.replicate ((a.length + 1) / 2) 0, Nat.zero_le _, by simp, (fun x hx => by have := List.eq_of_mem_replicate hx; omega), by rw [nv_rep]; simp [nv], (fun j _ => by
      have h := getD_lt (B := 1) (by decide) (l := List.replicate ((a.length + 1) / 2) 0) (fun x hx => by have := List.eq_of_mem_replicate hx; omega) j
      omega), (fun h => by omega), rfl⟩
  · exact key
  intro L x hx hL
  obtain ⟨i, out, hi, hol, hod, hov, hz, ho, rfl⟩ := hx
  have hla := ha.2
  unfold h162_3
  rcases Nat.lt_or_ge i a.length with hlt | hge
  · have hxa := getD_lt (by decide) ha.1 i
    have hna := nv_take_next (2 ^ 32) a i
    generalize hda : a.getD i 0 = da at *
    rcases Nat.mod_two_eq_zero_or_one i with h2 | h2
    · have hz0 := hz (i / 2) (by omega)
      have hns := nv_set' (2 ^ 64) out (i / 2) da da (by omega) (by omega)
      simp (disch := omega) only [wadd, wadd1, wadd64, wsubn, wsub1, wmul64, ilt_t, ilt_f, ile_t, ile_f, igt_t, igt_f, ige_t, ige_f, ipos_t, ipos_f, igt0_t, igt0_f, nnn, beq0_t, beq0_f, bne0_t, bne0_f, Int.toNat_natCast, Int.toNat_zero, cond_true, cond_false, Bool.and_self, Bool.true_and, Bool.and_true, Bool.false_and, Bool.and_false, Bool.not_true, Bool.not_false, Bool.or_self, Bool.true_or, Bool.or_true, Bool.false_or, Bool.or_false, Wd_len, Wd_getD, hda, tmod2, quo2i, Wd_set]
      refine hL _ ⟨i + 1, out.set (i / 2) da, by omega, by rw [List.length_set]; exact hol, set_lt hod (by omega), ?_, ?_, ?_, rfl⟩ (by simp only [Int.toNat_natCast]; omega)
      · rw [hns, hna, hov]
        have : (2 ^ 64) ^ (i / 2) = (2 ^ 32) ^ i := by rw [← Nat.pow_mul, ← Nat.pow_mul]; congr 1; omega
        rw [this]
      · intro j hj
        rw [getD_set_ne (by omega)]
        exact hz j (by omega)
      · intro _
        rw [show (i + 1) / 2 = i / 2 by omega, getD_set (by omega)]
        exact hxa
    · have hlo := ho h2
      generalize hdo : out.getD (i / 2) 0 = lo at *
      have hns := nv_set' (2 ^ 64) out (i / 2) (lo + da * 2 ^ 32) (da * 2 ^ 32) (by omega) (by omega)
      simp (disch := omega) only [wadd, wadd1, wadd64, wsubn, wsub1, wmul64, ilt_t, ilt_f, ile_t, ile_f, igt_t, igt_f, ige_t, ige_f, ipos_t, ipos_f, igt0_t, igt0_f, nnn, beq0_t, beq0_f, bne0_t, bne0_f, Int.toNat_natCast, Int.toNat_zero, cond_true, cond_false, Bool.and_self, Bool.true_and, Bool.and_true, Bool.false_and, Bool.and_false, Bool.not_true, Bool.not_false, Bool.or_self, Bool.true_or, Bool.or_true, Bool.false_or, Bool.or_false, Wd_len, Wd_getD, hda, hdo, tmod2, quo2i, wu_mul32, wu_add, Wd_set]
      refine hL _ ⟨i + 1, out.set (i / 2) (lo + da * 2 ^ 32), by omega, by rw [List.length_set]; exact hol, set_lt hod (by omega), ?_, ?_, ?_, rfl⟩ (by simp only [Int.toNat_natCast]; omega)
      · rw [hns, hna, hov, Nat.mul_comm da, ← Nat.mul_assoc]
        have : (2 ^ 64) ^ (i / 2) * 2 ^ 32 = (2 ^ 32) ^ i := by rw [← Nat.pow_mul, ← Nat.pow_mul, ← Nat.pow_add]; congr 1; omega
        rw [this]
      · intro j hj
        rw [getD_set_ne (by omega)]
        exact hz j (by omega)
      · intro h; omega
  · have e : i = a.length := by omega
    subst e
    rw [List.take_length] at hov
    have h1 := pd_at (B := 2 ^ 64) (by decide) hod hol hov
    simp (disch := omega) only [wadd, wadd1, wadd64, wsubn, wsub1, wmul64, ilt_t, ilt_f, ile_t, ile_f, igt_t, igt_f, ige_t, ige_f, ipos_t, ipos_f, igt0_t, igt0_f, nnn, beq0_t, beq0_f, bne0_t, bne0_f, Int.toNat_natCast, Int.toNat_zero, cond_true, cond_false, Bool.and_self, Bool.true_and, Bool.and_true, Bool.false_and, Bool.and_false, Bool.not_true, Bool.not_false, Bool.or_self, Bool.true_or, Bool.or_true, Bool.false_or, Bool.or_false, Wd_len]
    rw [← h1]
theorem T162_eq (a : List Nat) (ha : Hs a) : T162 (Wd a, ()) = some (Dw (nv (2 ^ 32) a), ()) := by
  show t162 S158.pre S158.F W162_3 (Wd a) = _
  unfold t162
  have hla := ha.2
  have hw := W162_eq a ha
  have hlt := nv_lt (B := 2 ^ 32) (by decide) a ha.1
  have hlt2 : nv (2 ^ 32) a < (2 ^ 64) ^ ((a.length + 1) / 2) := by
    refine Nat.lt_of_lt_of_le hlt ?_
    rw [← Nat.pow_mul, ← Nat.pow_mul]
    exact Nat.pow_le_pow_right (by decide) (by omega)
  have p0 := T158_eq (pd (2 ^ 64) ((a.length + 1) / 2) (nv (2 ^ 32) a)) (by rw [pd_len]; omega)
  rw [trim_dg (B := 2 ^ 64) (by decide) _ (pd_lt (by decide) _ _), pd_nv (by decide) _ _ hlt2] at p0
  have e2 : decide ((((a.length + 1) / 2 : Nat) : Int) * 8 ≤ 140737488355328) = true := decide_eq_true (by omega)
  simp (disch := omega) only [wadd, wadd1, wadd64, wsubn, wsub1, wmul64, ilt_t, ilt_f, ile_t, ile_f, igt_t, igt_f, ige_t, ige_f, ipos_t, ipos_f, igt0_t, igt0_f, nnn, beq0_t, beq0_f, bne0_t, bne0_f, Int.toNat_natCast, Int.toNat_zero, cond_true, cond_false, Bool.and_self, Bool.true_and, Bool.and_true, Bool.false_and, Bool.and_false, Bool.not_true, Bool.not_false, Bool.or_self, Bool.true_or, Bool.or_true, Bool.false_or, Bool.or_false, Wd_len, quo2i, e2, Wd_rep, hw]
  show (bif S158.pre (Wd (pd (2 ^ 64) ((a.length + 1) / 2) (nv (2 ^ 32) a)), ()) then some (S158.F (Wd (pd (2 ^ 64) ((a.length + 1) / 2) (nv (2 ^ 32) a)), ())) else none) = _
  simp only [pre158 p0, fun158 p0, cond_true]
  rfl
theorem T162_h {n : Nat} (hn : n < 2 ^ 100000) : T162 (Dh n, ()) = some (Dw n, ()) := by
  have := T162_eq (dg (2 ^ 32) n) (Hs.dg hn)
  rwa [nv_Dh] at this
theorem nv_div {B : Nat} (hB : 2 ≤ B) {l : List Nat} (h : ∀ x ∈ l, x < B) (i : Nat) (hi : i ≤ l.length) : nv B l / B ^ i = nv B (l.drop i) := by
  rw [nv_split B l i hi, Nat.add_mul_div_left _ _ (Nat.pow_pos (by omega)), Nat.div_eq_of_lt (take_lt hB h i), Nat.zero_add]
theorem right_digit {l : List Nat} (hl : Hs l) {w s k : Nat} (hs : s < 32) (hi : w + k < l.length) :
    nv (2 ^ 32) l / 2 ^ (32 * w + s) / (2 ^ 32) ^ k % 2 ^ 32 = (l.getD (w + k) 0 + l.getD (w + k + 1) 0 * 2 ^ 32) / 2 ^ s % 2 ^ 32 := by
  have e1 : nv (2 ^ 32) l / 2 ^ (32 * w + s) / (2 ^ 32) ^ k = nv (2 ^ 32) l / (2 ^ 32) ^ (w + k) / 2 ^ s := by
    rw [Nat.div_div_eq_div_mul, Nat.div_div_eq_div_mul]
    congr 1
    rw [← Nat.pow_mul, ← Nat.pow_mul, ← Nat.pow_add, ← Nat.pow_add]
    congr 1
    omega
  rw [e1, nv_div (by decide) hl.1 _ (by omega), nv_drop_next _ _ _ hi]
  have e2 : ∃ R, nv (2 ^ 32) (l.drop (w + k + 1)) = l.getD (w + k + 1) 0 + 2 ^ 32 * R := by
    rcases Nat.lt_or_ge (w + k + 1) l.length with h | h
    · exact ⟨_, nv_drop_next _ _ _ h⟩
    · refine ⟨0, ?_⟩
      rw [List.drop_eq_nil_of_le h, List.getD_eq_getElem?_getD, List.getElem?_eq_none h]; rfl
  obtain ⟨R, hR⟩ := e2
  rw [hR]
  generalize l.getD (w + k) 0 = x
  generalize l.getD (w + k + 1) 0 = y
  have hp := Nat.two_pow_pos s
  have e3 : x + 2 ^ 32 * (y + 2 ^ 32 * R) = (x + y * 2 ^ 32) + 2 ^ s * (2 ^ 32 * (2 ^ (32 - s) * R)) := by
    have h1 : 2 ^ s * 2 ^ (32 - s) = 2 ^ 32 := by rw [← Nat.pow_add]; congr 1; omega
    have h2 : 2 ^ s * (2 ^ 32 * (2 ^ (32 - s) * R)) = 2 ^ 32 * (2 ^ s * 2 ^ (32 - s) * R) := by
      rw [Nat.mul_left_comm, Nat.mul_assoc (2 ^ s)]
    rw [h2, h1, Nat.mul_add]
    omega
  rw [e3, Nat.add_mul_div_left _ _ hp, Nat.add_mul_mod_self_left]
theorem quoM (x m : Nat) (h : x < 2 ^ 64) (hm : 0 < m) : quoI .u64 (x : Int) (m : Int) = ((x / m : Nat) : Int) := by
  unfold quoI
  have e : (x : Int).tdiv (m : Int) = ((x / m : Nat) : Int) := rfl
  have := Nat.div_le_self x m
  generalize x / m = q at *
  rw [e, wrapU (by omega)]
theorem W180_eq (l : List Nat) (hl : Hs l) (w s : Nat) (hs : s < 32) (hw : w ≤ 10000000) :
    W180_4 ((Wd l, (((2 ^ s : Nat) : Int), ((w : Int), ((), ())))), ([], ())) = some (.inl (((), ()), (Wd (pd (2 ^ 32) (l.length - w) (nv (2 ^ 32) l / 2 ^ (32 * w + s) % (2 ^ 32) ^ (l.length - w))), ()))) := by
  have key := lfix_ind (m180_4 S158.pre S158.F) (fun x => l.length - x.1.2.2.1.toNat)
    (fun x => ∃ (k : Nat) (out : List Nat), (w + k ≤ l.length ∨ k = 0) ∧ out.length = k ∧ (∀ x ∈ out, x < 2 ^ 32) ∧ nv (2 ^ 32) out = nv (2 ^ 32) l / 2 ^ (32 * w + s) % (2 ^ 32) ^ k ∧
      x = ((Wd l, (((2 ^ s : Nat) : Int), (((w + k : Nat) : Int), ((), ())))), (Wd out, ())))
    (fun _ => .inl (((), ()), (Wd (pd (2 ^ 32) (l.length - w) (nv (2 ^ 32) l / 2 ^ (32 * w + s) % (2 ^ 32) ^ (l.length - w))), ()))) ?_ ((Wd l, (((2 ^ s : Nat) : Int), ((w : Int), ((), ())))), ([], ()))
    ⟨0, [], .inr rfl, rfl, (fun x hx => by simp at hx), by simp [nv, Nat.mod_one], rfl⟩
  · exact key
  intro L x hx hL
  obtain ⟨k, out, hk, hol, hod, hov, rfl⟩ := hx
  have hla := hl.2
  have hp := Nat.two_pow_pos s
  unfold h180_4
  rcases Nat.lt_or_ge (w + k) l.length with hlt | hge
  · have hx := getD_lt (by decide) hl.1 (w + k)
    have hy := getD_lt (by decide) hl.1 (w + k + 1)
    have hdig := right_digit hl hs hlt
    have hzb : l.length ≤ w + k + 1 → l.getD (w + k + 1) 0 = 0 := fun h => by rw [List.getD_eq_getElem?_getD, List.getElem?_eq_none h]; rfl
    generalize nv (2 ^ 32) l / 2 ^ (32 * w + s) = X at *
    have hgo : ∀ v : Nat, v = X / (2 ^ 32) ^ k % 2 ^ 32 → L ((Wd l, (((2 ^ s : Nat) : Int), (((w + k + 1 : Nat) : Int), ((), ())))), (Wd (out ++ [v]), ())) = _ := fun v hv =>
      hL _ ⟨k + 1, out ++ [v], .inl (by omega), by simp; omega, app_lt hod (by rw [hv]; exact Nat.mod_lt _ (by decide)), by
        rw [nv_snoc, hol, hov, hv, show (2 ^ 32) ^ (k + 1) = (2 ^ 32) ^ k * 2 ^ 32 from rfl, Nat.mod_mul], rfl⟩ (by simp only [Int.toNat_natCast]; omega)
    generalize hdx : l.getD (w + k) 0 = x at *
    generalize hdy : l.getD (w + k + 1) 0 = y at *
    rcases Nat.lt_or_ge (w + k + 1) l.length with h1 | h1
    · simp (disch := omega) only [wadd, wadd1, wadd64, wsubn, wsub1, wmul64, ilt_t, ilt_f, ile_t, ile_f, igt_t, igt_f, ige_t, ige_f, ipos_t, ipos_f, igt0_t, igt0_f, nnn, beq0_t, beq0_f, bne0_t, bne0_f, Int.toNat_natCast, Int.toNat_zero, cond_true, cond_false, Bool.and_self, Bool.true_and, Bool.and_true, Bool.false_and, Bool.and_false, Bool.not_true, Bool.not_false, Bool.or_self, Bool.true_or, Bool.or_true, Bool.false_or, Bool.or_false, Wd_len, Wd_getD, hdx, hdy, wu_mul32, wu_add, quoM, tmod32, wd_snoc, List.length_cons, List.length_nil, room8]
      exact hgo _ hdig.symm
    · have h0 := hzb h1
      rw [h0, Nat.zero_mul, Nat.add_zero] at hdig
      simp (disch := omega) only [wadd, wadd1, wadd64, wsubn, wsub1, wmul64, ilt_t, ilt_f, ile_t, ile_f, igt_t, igt_f, ige_t, ige_f, ipos_t, ipos_f, igt0_t, igt0_f, nnn, beq0_t, beq0_f, bne0_t, bne0_f, Int.toNat_natCast, Int.toNat_zero, cond_true, cond_false, Bool.and_self, Bool.true_and, Bool.and_true, Bool.false_and, Bool.and_false, Bool.not_true, Bool.not_false, Bool.or_self, Bool.true_or, Bool.or_true, Bool.false_or, Bool.or_false, Wd_len, Wd_getD, hdx, hdy, wu_mul32, wu_add, quoM, tmod32, wd_snoc, List.length_cons, List.length_nil, room8]
      exact hgo _ hdig.symm
  · have e : k = l.length - w := by omega
    subst e
    have h1 := pd_at (B := 2 ^ 32) (by decide) hod hol hov
    simp (disch := omega) only [wadd, wadd1, wadd64, wsubn, wsub1, wmul64, ilt_t, ilt_f, ile_t, ile_f, igt_t, igt_f, ige_t, ige_f, ipos_t, ipos_f, igt0_t, igt0_f, nnn, beq0_t, beq0_f, bne0_t, bne0_f, Int.toNat_natCast, Int.toNat_zero, cond_true, cond_false, Bool.and_self, Bool.true_and, Bool.and_true, Bool.false_and, Bool.and_false, Bool.not_true, Bool.not_false, Bool.or_self, Bool.true_or, Bool.or_true, Bool.false_or, Bool.or_false, Wd_len]
    rw [← h1]
theorem T180_eq (l : List Nat) (hl : Hs l) (n : Nat) (hn : n ≤ 10000000) : T180 (Wd l, (n : Int), ()) = some (Dh (nv (2 ^ 32) l / 2 ^ n), ()) := by
  show t180 S158.pre S158.F W180_4 (Wd l) n = _
  unfold t180
  have hla := hl.2
  have hw := W180_eq l hl (n / 32) (n % 32) (Nat.mod_lt _ (by decide)) (by omega)
  rw [show 32 * (n / 32) + n % 32 = n by omega] at hw
  have hlt := nv_lt (B := 2 ^ 32) (by decide) l hl.1
  have hX : nv (2 ^ 32) l / 2 ^ n < (2 ^ 32) ^ (l.length - n / 32) := by
    rw [Nat.div_lt_iff_lt_mul (Nat.two_pow_pos n)]
    refine Nat.lt_of_lt_of_le hlt ?_
    rw [← Nat.pow_mul, ← Nat.pow_mul, ← Nat.pow_add]
    exact Nat.pow_le_pow_right (by decide) (by omega)
  rw [Nat.mod_eq_of_lt hX] at hw
  have p0 := T158_h (l := pd (2 ^ 32) (l.length - n / 32) (nv (2 ^ 32) l / 2 ^ n)) ⟨pd_lt (by decide) _ _, by rw [pd_len]; omega⟩ (pd_nv (by decide) _ _ hX)
  simp (disch := omega) only [wadd, wadd1, wadd64, wsubn, wsub1, wmul64, ilt_t, ilt_f, ile_t, ile_f, igt_t, igt_f, ige_t, ige_f, ipos_t, ipos_f, igt0_t, igt0_f, nnn, beq0_t, beq0_f, bne0_t, bne0_f, Int.toNat_natCast, Int.toNat_zero, cond_true, cond_false, Bool.and_self, Bool.true_and, Bool.and_true, Bool.false_and, Bool.and_false, Bool.not_true, Bool.not_false, Bool.or_self, Bool.true_or, Bool.or_true, Bool.false_or, Bool.or_false, quoE32, tmodE32, wu_id, shlI_one, hw]
  show (bif S158.pre (Wd (pd (2 ^ 32) (l.length - n / 32) (nv (2 ^ 32) l / 2 ^ n)), ()) then some (S158.F (Wd (pd (2 ^ 32) (l.length - n / 32) (nv (2 ^ 32) l / 2 ^ n)), ())) else none) = _
  simp only [pre158 p0, fun158 p0, cond_true]
  rfl
theorem T180_h {x : Nat} (hx : x < 2 ^ 100000) (n : Nat) (hn : n ≤ 10000000) : T180 (Dh x, (n : Int), ()) = some (Dh (x / 2 ^ n), ()) := by
  have := T180_eq (dg (2 ^ 32) x) (Hs.dg hx) n hn
  rwa [nv_Dh] at this
end VL
namespace VL
open Go Vx
theorem T67_ok {f : Int} (h : Fm f) : T67 (f, ()) = some ((fW f : Int), (fP f : Int), (1 - (fX f : Int)), ()) := by
  rcases Fm_cases h with rfl | rfl | rfl | rfl <;> kernel_rfl
theorem T67_bad {f : Int} (h : ¬ Fm f) : T67 (f, ()) = some (0, 0, 0, ()) := by
  show t67 f = _
  unfold t67
  have hn : ∀ k : Int, 0 ≤ k ∧ k < 4 → (f == k) = false := fun k hk => ibeq_f _ _ (fun e => h (by rw [e]; exact hk))
  rw [hn 0 (by omega), hn 1 (by omega), hn 2 (by omega), hn 3 (by omega)]
  rfl
theorem T81_ok {f : Int} (h : Fm f) (neg : Bool) : T81 (f, neg, ()) = some ((sgnF f neg : Int), ()) := by
  rcases Fm_cases h with rfl | rfl | rfl | rfl <;> cases neg <;> kernel_rfl
theorem T179_ok {f : Int} (h : Fm f) (neg : Bool) : T179 (f, neg, ()) = some ((infB f neg : Int), ()) := by
  rcases Fm_cases h with rfl | rfl | rfl | rfl <;> cases neg <;> kernel_rfl
theorem T37_ok {f : Int} (h : Fm f) (neg : Bool) : T37 (f, neg, ()) = some ((sgnF f neg : Int), ()) := by
  rcases Fm_cases h with rfl | rfl | rfl | rfl <;> cases neg <;> kernel_rfl
theorem T75_ok {f : Int} (h : Fm f) : T75 (f, ()) = some ((nanF f : Int), ()) := by
  rcases Fm_cases h with rfl | rfl | rfl | rfl <;> kernel_rfl
theorem inf_pos {f : Int} (h : Fm f) (neg : Bool) : 1 ≤ infB f neg ∧ infB f neg < 2 ^ 64 := by
  rcases Fm_cases h with rfl | rfl | rfl | rfl <;> cases neg <;> decide
theorem T160_eq {f : Int} (h : Fm f) (m : Int) (neg : Bool) : T160 (f, m, neg, ()) = some ((beyB f m neg : Int), ()) := by
  show t160 S179.pre S179.F f m neg = _
  have p0 := T179_ok h neg
  have hp := inf_pos h neg
  have e1 : IntKind.wrap .u64 ((infB f neg : Int) - 1) = ((infB f neg - 1 : Nat) : Int) := wu_sub _ 1 (by omega)
  unfold t160 beyB
  simp only [pre179 p0, fun179 p0, cond_true, e1]
  show (bif upw m neg then _ else _) = _
  cases upw m neg <;> rfl
theorem fP_le {f : Int} (hf : Fm f) : fP f ≤ 53 := by
  rcases Fm_cases hf with rfl | rfl | rfl | rfl <;> decide
theorem mode_cases {m : Int} (hm : 0 ≤ m ∧ m ≤ 5) : m = 0 ∨ m = 1 ∨ m = 2 ∨ m = 3 ∨ m = 4 ∨ m = 5 := by omega
theorem Dh_guard (n : Nat) : (decide ((0 : Int) < (((Dh n).length : Nat) : Int)) || !decide ((((Dh n).length : Nat) : Int) > 0)) = true := by
  cases decide ((((Dh n).length : Nat) : Int) > 0) <;> rfl
theorem Dh_odd (u : Nat) : (decide ((((Dh u).length : Nat) : Int) > 0) && (Int.tmod ((Dh u).getD (Int.toNat 0) 0) 2 == 1)) = decide (u % 2 = 1) := by
  rw [Int.toNat_zero, Dh_get, tmod2, show (u % 2 ^ 32) % 2 = u % 2 by omega]
  rcases Nat.mod_two_eq_zero_or_one u with h | h
  · rw [h]; simp
  · have : 0 < (Dh u).length := Dh_len (by omega)
    rw [h, decide_eq_true (show (((Dh u).length : Nat) : Int) > 0 by omega)]; rfl
theorem mod_eq_sub (N n : Nat) : N - N / 2 ^ n * 2 ^ n = N % 2 ^ n := by
  have := Nat.mod_add_div N (2 ^ n)
  rw [Nat.mul_comm] at this
  omega
theorem T161_eq {m : Int} (hm : 0 ≤ m ∧ m ≤ 5) (neg : Bool) (N : Nat) (E q : Int) (hN : N < 2 ^ 50000) (hb : -20000 ≤ E ∧ E ≤ 20000 ∧ -20000 ≤ q ∧ q ≤ 20000) (hsh : q ≤ E → N * 2 ^ (E - q).toNat < 2 ^ 100000) :
    T161 (m, (neg, Dh N, E, ()), q, ()) = some (Dh (cutN m neg N E q false), decide (cutR N E q false ≠ 0), ()) := by
  show t161 S180.pre S180.F S130.pre S130.F S127.pre S127.F S129.pre S129.F S128.pre S128.F m (neg, Dh N, E, ()) q = _
  have hN2 : N < 2 ^ 100000 := Nat.lt_trans hN (Nat.pow_lt_pow_right (by decide) (by decide))
  unfold t161 cutN
  rw [cutR_f]
  dsimp only
  by_cases hqE : q ≤ E
  · obtain ⟨d, hd⟩ := Int.eq_ofNat_of_zero_le (show 0 ≤ E - q by omega)
    have e0 : IntKind.wrap .i64 (E - q) = (d : Int) := by rw [wrapI (by omega)]; exact hd
    have p0 := T127_h hN2 d (by omega)
    rw [decide_eq_true hqE, cond_true, e0]
    simp only [pre127 p0, fun127 p0, cond_true]
    rw [rstE_lo hqE, quoE_lo hqE, hd, Int.toNat_natCast]
    rfl
  · obtain ⟨n, hn⟩ := Int.eq_ofNat_of_zero_le (show 0 ≤ q - E by omega)
    have e0 : IntKind.wrap .i64 (q - E) = (n : Int) := by rw [wrapI (by omega)]; exact hn
    have e1 : IntKind.wrap .i64 ((n : Int) - 1) = ((n - 1 : Nat) : Int) := wsub1 _ (by omega)
    have hQN : N / 2 ^ n * 2 ^ n ≤ N := Nat.div_mul_le_self _ _
    have hQ2 : N / 2 ^ n ≤ N := Nat.div_le_self _ _
    have p0 := T180_h hN2 n (by omega)
    have p1 := T127_h (x := N / 2 ^ n) (by omega) n (by omega)
    have p2 := T130_h hN2 hQN
    rw [mod_eq_sub] at p2
    rw [decide_eq_false hqE, cond_false, e0, rstE_hi (by omega), quoE_hi (by omega), hn, Int.toNat_natCast]
    simp only [pre180 p0, fun180 p0, cond_true, pre127 p1, fun127 p1, pre130 p2, fun130 p2, Dh_len0]
    have hRN := Nat.mod_le N (2 ^ n)
    generalize N / 2 ^ n = Q at *
    generalize N % 2 ^ n = R at *
    by_cases hR : R = 0
    · subst hR
      rw [decide_eq_true rfl, cond_true]
      rfl
    · have hQ1 : 1 < 2 ^ 100000 := Nat.lt_of_lt_of_le (show 1 < 2 ^ 1 by decide) (Nat.pow_le_pow_right (by decide) (by decide))
      have p3 := T127_h (x := 1) hQ1 (n - 1) (by omega)
      rw [Dh_small (by decide) (by decide), Nat.one_mul] at p3
      have hH : 2 ^ (n - 1) < 2 ^ 100000 := Nat.pow_lt_pow_right (by decide) (by omega)
      have p4 := T129_eq R (2 ^ (n - 1)) (by omega) hH
      have p5 := T128_h (x := Q) (y := 1) (by omega) hQ1
      rw [Dh_small (x := 1) (by decide) (by decide)] at p5
      rw [show ((1 : Nat) : Int) = 1 from rfl] at p3 p5
      have hcls : clsR R n ≠ 0 := by
        unfold clsR; rw [if_neg hR]; split
        · decide
        · split <;> decide
      have hcut : (if clsR R n ≠ 0 ∧ furM m neg (decide (Q % 2 = 1)) (clsR R n) = true then Q + 1 else Q) = bif furM m neg (decide (Q % 2 = 1)) (clsR R n) then Q + 1 else Q := by
        cases h : furM m neg (decide (Q % 2 = 1)) (clsR R n) with
        | true => rw [if_pos ⟨hcls, rfl⟩]; rfl
        | false => rw [if_neg (fun hh => by cases hh.2)]; rfl
      rw [hcut, decide_eq_false hR, cond_false, decide_eq_true hcls]
      simp only [e1, pre127 p3, fun127 p3, pre129 p4, fun129 p4, cond_true, Dh_guard, Dh_odd, pre128 p5, fun128 p5]
      generalize hcmp : (if R = 2 ^ (n - 1) then (0 : Int) else if R < 2 ^ (n - 1) then -1 else 1) = cmp at *
      have hcase : (cmp = -1 ∧ clsR R n = 1) ∨ (cmp = 0 ∧ clsR R n = 2) ∨ (cmp = 1 ∧ clsR R n = 3) := by
        unfold clsR
        rw [if_neg hR, ← hcmp]
        rcases Nat.lt_trichotomy R (2 ^ (n - 1)) with h | h | h
        · left; rw [if_neg (by omega), if_pos h, if_pos h]; exact ⟨rfl, rfl⟩
        · right; left; rw [if_pos h, if_neg (by omega), if_pos h]; exact ⟨rfl, rfl⟩
        · right; right; rw [if_neg (by omega), if_neg (by omega), if_neg (by omega), if_neg (by omega)]; exact ⟨rfl, rfl⟩
      generalize clsR R n = cl at *
      generalize decide (Q % 2 = 1) = odd at *
      clear hcut hcmp p0 p1 p2 p3 p4 p5 hcls
      rcases hcase with ⟨rfl, rfl⟩ | ⟨rfl, rfl⟩ | ⟨rfl, rfl⟩ <;> rcases mode_cases hm with rfl | rfl | rfl | rfl | rfl | rfl <;> cases neg <;> cases odd <;> rfl
theorem cut_lt_big {f m : Int} (hf : Fm f) {neg : Bool} {n : Nat} {e q : Int} (h : topE n e - fP f + 1 ≤ q) : cutN m neg n e q false ≤ 2 ^ fP f := cut_le h
theorem T126_eq {f m : Int} (hf : Fm f) (hm : 0 ≤ m ∧ m ≤ 5) (neg : Bool) (N : Nat) (E : Int) (h0 : N ≠ 0) (hN : N < 2 ^ 6000) (hE : -6000 ≤ E ∧ E ≤ 6000) :
    T126 (f, m, (neg, Dh N, E, ()), ()) = some (((rndN f m neg N E false).1 : Int), ((rndN f m neg N E false).2 : Int), ()) := by
  show t126 S67.pre S67.F S160.pre S160.F S81.pre S81.F S162.pre S162.F S161.pre S161.F S159.pre S159.F f m (neg, Dh N, E, ()) = _
  have hP := fP_ge hf
  have hPW := fP_lt hf
  have hW := fW_le hf
  have hX := fX_le hf
  have hX15 := fX_ge hf
  have hbl := blen_bound hN
  have hbl1 := blen_pos h0
  have htop : topE N E = E + (blen N : Int) - 1 := rfl
  have hNbig : N < 2 ^ 50000 := Nat.lt_trans hN (Nat.pow_lt_pow_right (by decide) (by decide))
  have pP := T67_ok hf
  have pB := T159_h (n := N) (Nat.lt_trans hN (Nat.pow_lt_pow_right (by decide) (by decide)))
  have pY := T160_eq hf m neg
  have pS := T81_ok hf neg
  have e1 : IntKind.wrap .i64 (IntKind.wrap .i64 (E + (blen N : Int)) - 1) = topE N E := by rw [wrapI (n := E + _) (by omega), wrapI (by omega)]; rfl
  have e2 : IntKind.wrap .i64 (1 - (1 - (fX f : Int))) = (fX f : Int) := by rw [wrapI (by omega)]; omega
  have e3 : IntKind.wrap .i64 (IntKind.wrap .i64 ((if 1 - (fX f : Int) > topE N E then 1 - (fX f : Int) else topE N E) - (fP f : Int)) + 1) = lowE f (topE N E) := by
    unfold lowE
    have hb : -100000 ≤ (if 1 - (fX f : Int) > topE N E then 1 - (fX f : Int) else topE N E) ∧ (if 1 - (fX f : Int) > topE N E then 1 - (fX f : Int) else topE N E) ≤ 100000 := by split <;> omega
    rw [wrapI (n := _ - (fP f : Int)) (by omega), wrapI (by omega)]
  have e4 : IntKind.wrap .i64 (IntKind.wrap .i64 ((1 - (fX f : Int)) - (fP f : Int)) + 1) = 1 - (fX f : Int) - (fP f : Int) + 1 := by
    rw [wrapI (n := _ - (fP f : Int)) (by omega), wrapI (by omega)]
  have e5 : IntKind.wrap .i64 (topE N E - (fP f : Int) + 1) = topE N E - (fP f : Int) + 1 := wrapI (by omega)
  have e6 : IntKind.wrap .i64 (topE N E - (fP f : Int)) = topE N E - (fP f : Int) := wrapI (by omega)
  unfold t126 rndN
  dsimp only
  simp only [pre67 pP, fun67 pP, cond_true, pre159 pB, fun159 pB, e1, e2, e3, e4, e5, e6, pre160 pY, fun160 pY, pre81 pS, fun81 pS]
  by_cases hov : topE N E > fX f
  · rw [if_pos hov, decide_eq_true hov, cond_true]
    rfl
  rw [if_neg hov, decide_eq_false hov, cond_false]
  have hlow : topE N E - (fP f : Int) + 1 ≤ lowE f (topE N E) ∧ 1 - (fX f : Int) - (fP f : Int) + 1 ≤ lowE f (topE N E) ∧ lowE f (topE N E) ≤ 2000 ∧ lowE f (topE N E) ≤ (fX f : Int) - (fP f : Int) + 1 ∧ (lowE f (topE N E) ≠ 1 - (fX f : Int) - (fP f : Int) + 1 → lowE f (topE N E) = topE N E - (fP f : Int) + 1) := by
    unfold lowE; split <;> refine ⟨?_, ?_, ?_, ?_, ?_⟩ <;> omega
  generalize hqd : lowE f (topE N E) = q at *
  have hshl : ∀ q : Int, -20000 ≤ q → q ≤ E → N * 2 ^ (E - q).toNat < 2 ^ 100000 := fun q h1 h2 => by
    have h3 : N * 2 ^ (E - q).toNat < 2 ^ 6000 * 2 ^ (E - q).toNat := Nat.mul_lt_mul_of_pos_right hN (Nat.two_pow_pos _)
    rw [← Nat.pow_add] at h3
    exact Nat.lt_of_lt_of_le h3 (Nat.pow_le_pow_right (by decide) (by omega))
  have p61 := T161_eq hm neg N E q hNbig (by omega) (hshl q (by omega))
  have hu := cut_lt_big (m := m) (neg := neg) hf hlow.1
  have hu64 : cutN m neg N E q false ≤ 2 ^ 53 := Nat.le_trans hu (Nat.pow_le_pow_right (by decide) (fP_le hf))
  have p591 := T159_h (n := cutN m neg N E q false) (Nat.lt_of_le_of_lt hu64 (Nat.pow_lt_pow_right (by decide) (by decide)))
  have p62 := T162_h (n := cutN m neg N E q false) (Nat.lt_of_le_of_lt hu64 (Nat.pow_lt_pow_right (by decide) (by decide)))
  have p63 := T161_eq hm neg N E (topE N E - (fP f : Int) + 1) hNbig (by omega) (hshl _ (by omega))
  have hu2 := cut_lt_big (m := m) (neg := neg) hf (Int.le_refl (topE N E - (fP f : Int) + 1))
  have hu264 : cutN m neg N E (topE N E - (fP f : Int) + 1) false ≤ 2 ^ 53 := Nat.le_trans hu2 (Nat.pow_le_pow_right (by decide) (fP_le hf))
  have p592 := T159_h (n := cutN m neg N E (topE N E - (fP f : Int) + 1) false) (Nat.lt_of_le_of_lt hu264 (Nat.pow_lt_pow_right (by decide) (by decide)))
  have hU0 : cutN m neg N E q false = 0 → q = 1 - (fX f : Int) - (fP f : Int) + 1 := fun h => by
    by_cases hq : q = 1 - (fX f : Int) - (fP f : Int) + 1
    · exact hq
    · exfalso
      have hq2 := hlow.2.2.2.2 hq
      have hQ : quoE N E q = 0 := by
        unfold cutN at h
        split at h
        · omega
        · exact h
      by_cases hqE : q ≤ E
      · rw [quoE_lo hqE] at hQ
        have := Nat.mul_pos (show 0 < N by omega) (Nat.two_pow_pos (E - q).toNat)
        omega
      · rw [quoE_hi (by omega), Nat.div_eq_zero_iff] at hQ
        rcases hQ with hQ | hQ
        · have := Nat.two_pow_pos (q - E).toNat; omega
        · have := blen_bound hQ
          omega
  have hb1 := blen_bound (show cutN m neg N E q false < 2 ^ 60 by omega)
  have hb2 := blen_bound (show cutN m neg N E (topE N E - (fP f : Int) + 1) false < 2 ^ 60 by omega)
  have htny : isTiny f m neg N E false ↔ (topE N E < 1 - (fX f : Int) ∧ topE N E - (fP f : Int) + (blen (cutN m neg N E (topE N E - (fP f : Int) + 1) false) : Int) < 1 - (fX f : Int)) := Iff.rfl
  have hodd : cutR N E q false = 0 ↔ ¬ (cutR N E q false ≠ 0) := by omega
  simp only [htny]
  generalize hU : cutN m neg N E q false = U at *
  generalize hU2 : cutN m neg N E (topE N E - (fP f : Int) + 1) false = U2 at *
  generalize hRd : cutR N E q false = R at *
  generalize topE N E = t at *
  have e7 : IntKind.wrap .i64 (IntKind.wrap .i64 (q + (blen U : Int)) - 1) = q + (blen U : Int) - 1 := by
    rw [wrapI (n := q + _) (by omega), wrapI (by omega)]
  have e8 : IntKind.wrap .i64 (t - (fP f : Int) + (blen U2 : Int)) = t - (fP f : Int) + (blen U2 : Int) := wrapI (by omega)
  obtain ⟨k, hk⟩ := Int.eq_ofNat_of_zero_le (show 0 ≤ q - (1 - (fX f : Int) - (fP f : Int) + 1) by omega)
  have e9 : IntKind.wrap .u64 (IntKind.wrap .i64 (k : Int)) = (k : Int) := by
    rw [wrapI (by omega), wu_id _ (by omega)]
  have e10 : IntKind.wrap .u64 (IntKind.wrap .i64 ((fP f : Int) - 1)) = ((fP f - 1 : Nat) : Int) := by
    rw [wsub1 _ (by omega), wu_id _ (by omega)]
  have hhalf := half_eq hf
  have hpp := Nat.two_pow_pos (fP f - 1)
  have hk2 : k ≤ 2 * fX f - 1 := by omega
  have hkp : k * 2 ^ (fP f - 1) ≤ (2 * fX f - 1) * 2 ^ (fP f - 1) := Nat.mul_le_mul_right _ hk2
  have hW1 : 2 ^ (fW f - 1) ≤ 2 ^ 63 := Nat.pow_le_pow_right (by decide) (by omega)
  have e11 : shlI .u64 (k : Int) ((fP f - 1 : Nat) : Int) = ((k * 2 ^ (fP f - 1) : Nat) : Int) := by
    rw [shlN _ _ (by omega), Nat.mod_eq_of_lt (by omega)]
  have hs : sgnF f neg ≤ 2 ^ 63 := by unfold sgnF; split <;> omega
  have e12 : IntKind.wrap .u64 ((U : Int) + ((k * 2 ^ (fP f - 1) : Nat) : Int)) = ((U + k * 2 ^ (fP f - 1) : Nat) : Int) := wu_add _ _ (by omega)
  have e13 : IntKind.wrap .u64 ((sgnF f neg : Int) + ((U + k * 2 ^ (fP f - 1) : Nat) : Int)) = ((sgnF f neg + (U + k * 2 ^ (fP f - 1)) : Nat) : Int) := wu_add _ _ (by omega)
  have hDg : (Dw U).getD (Int.toNat 0) 0 = (U : Int) := by rw [Int.toNat_zero, Dw_get, Nat.mod_eq_of_lt (by omega)]
  have eOr : orI .i64 16 8 = 24 := by decide
  simp only [pre161 p61, fun161 p61, cond_true, pre159 p591, fun159 p591, e7]
  by_cases hov2 : q + (blen U : Int) - 1 > fX f
  · rw [if_pos hov2, decide_eq_true hov2, cond_true]
    rfl
  rw [if_neg hov2, decide_eq_false hov2, cond_false, hk, Int.toNat_natCast]
  have hval : sgnF f neg + (U + k * 2 ^ (fP f - 1)) = k * 2 ^ (fP f - 1) + U + sgnF f neg := by omega
  have hfl : ((if R = 0 then 0 else if t < 1 - (fX f : Int) ∧ t - (fP f : Int) + (blen U2 : Int) < 1 - (fX f : Int) then 24 else 16 : Nat) : Int) =
      (bif !(decide (R ≠ 0)) then (0 : Int) else bif decide (t < 1 - (fX f : Int)) then (bif decide (t - (fP f : Int) + (blen U2 : Int) < 1 - (fX f : Int)) then 24 else 16) else 16) := by
    by_cases h1 : R = 0
    · rw [if_pos h1, decide_eq_false (by omega)]; rfl
    · rw [if_neg h1, decide_eq_true h1]
      by_cases h2 : t < 1 - (fX f : Int)
      · by_cases h3 : t - (fP f : Int) + (blen U2 : Int) < 1 - (fX f : Int)
        · rw [if_pos ⟨h2, h3⟩, decide_eq_true h2, decide_eq_true h3]; rfl
        · rw [if_neg (fun h => h3 h.2), decide_eq_true h2, decide_eq_false h3]; rfl
      · rw [if_neg (fun h => h2 h.1), decide_eq_false h2]; rfl
  rw [hfl]
  simp only [pre162 p62, fun162 p62, cond_true, e8, e9, e10, e11, e12, e13, hDg, pre161 p63, fun161 p63, pre159 p592, fun159 p592, eOr]
  by_cases hUz : U = 0
  · have hk0 : k = 0 := by have := hU0 hUz; omega
    have eL : decide ((((Dw U).length : Nat) : Int) > 0) = false := by rw [hUz, Dw_zero]; rfl
    have ev : k * 2 ^ (fP f - 1) + U + sgnF f neg = sgnF f neg := by rw [hk0, hUz, Nat.zero_mul, Nat.zero_add]
    rw [eL, cond_false, ev]
    cases decide (R ≠ 0) <;> cases decide (t < 1 - (fX f : Int)) <;> cases decide (t - (fP f : Int) + (blen U2 : Int) < 1 - (fX f : Int)) <;> rfl
  · have eL : decide ((((Dw U).length : Nat) : Int) > 0) = true := Dw_len_gt hUz
    have eL2 : decide ((0 : Int) < (((Dw U).length : Nat) : Int)) = true := Dw_len_pos hUz
    rw [eL, cond_true, cond_true, hval]
    cases decide (R ≠ 0) <;> cases decide (t < 1 - (fX f : Int)) <;> cases decide (t - (fP f : Int) + (blen U2 : Int) < 1 - (fX f : Int)) <;> rfl
theorem T77_eq {f m : Int} (hf : Fm f) (hm : 0 ≤ m ∧ m ≤ 5) (neg : Bool) (N : Nat) (E : Int) (zn : Bool) (hN : N < 2 ^ 6000) (hE : -6000 ≤ E ∧ E ≤ 6000) :
    T77 (f, m, (neg, Dh N, E, ()), zn, ()) = some (((if N = 0 then (sgnF f zn, 0) else rndN f m neg N E false : Nat × Nat).1 : Int), ((if N = 0 then (sgnF f zn, 0) else rndN f m neg N E false : Nat × Nat).2 : Int), ()) := by
  show t77 S37.pre S37.F S126.pre S126.F f m (neg, Dh N, E, ()) zn = _
  unfold t77
  dsimp only
  rw [Dh_len0]
  by_cases h : N = 0
  · have p0 := T37_ok hf zn
    rw [decide_eq_true h, cond_true, if_pos h]
    simp only [pre37 p0, fun37 p0, cond_true]
    rfl
  · have p0 := T126_eq hf hm neg N E h hN hE
    rw [decide_eq_false h, cond_false, if_neg h]
    simp only [pre126 p0, fun126 p0, cond_true]
end VL
namespace VL
open Go Vx
/-- the exact sum as the reference has it -/
def sumD (nx : Bool) (X : Nat) (ex : Int) (ny : Bool) (Y : Nat) (ey : Int) : Bool × Nat × Int :=
  if X = 0 then (ny, Y, ey) else if Y = 0 then (nx, X, ex) else
  let e := if ey < ex then ey else ex
  let a := X * 2 ^ (ex - e).toNat
  let b := Y * 2 ^ (ey - e).toNat
  if nx = ny then (nx, a + b, e) else if b ≤ a then (nx, a - b, e) else (ny, b - a, e)
theorem sft_lt {X : Nat} (hX : X < 2 ^ 53) {d : Nat} (hd : d ≤ 5000) : X * 2 ^ d < 2 ^ 5053 := by
  have h1 : X * 2 ^ d < 2 ^ 53 * 2 ^ d := Nat.mul_lt_mul_of_pos_right hX (Nat.two_pow_pos _)
  rw [← Nat.pow_add] at h1
  exact Nat.lt_of_lt_of_le h1 (Nat.pow_le_pow_right (by decide) (by omega))
theorem T78_eq (nx : Bool) (X : Nat) (ex : Int) (ny : Bool) (Y : Nat) (ey : Int) (hX : X < 2 ^ 53) (hY : Y < 2 ^ 53) (hex : -2000 ≤ ex ∧ ex ≤ 2000) (hey : -2000 ≤ ey ∧ ey ≤ 2000) :
    T78 ((nx, Dh X, ex, ()), (ny, Dh Y, ey, ()), ()) = some (((sumD nx X ex ny Y ey).1, Dh (sumD nx X ex ny Y ey).2.1, (sumD nx X ex ny Y ey).2.2, ()), ()) := by
  show t78 S127.pre S127.F S128.pre S128.F S129.pre S129.F S130.pre S130.F (nx, Dh X, ex, ()) (ny, Dh Y, ey, ()) = _
  unfold t78 sumD
  dsimp only
  rw [Dh_len0, Dh_len0]
  by_cases h1 : X = 0
  · rw [decide_eq_true h1, cond_true, if_pos h1]
  rw [decide_eq_false h1, cond_false, if_neg h1]
  by_cases h2 : Y = 0
  · rw [decide_eq_true h2, cond_true, if_pos h2]
  rw [decide_eq_false h2, cond_false, if_neg h2]
  have he : (if ey < ex then ey else ex) ≤ ex ∧ (if ey < ex then ey else ex) ≤ ey ∧ -2000 ≤ (if ey < ex then ey else ex) := by split <;> omega
  generalize (if ey < ex then ey else ex) = e at *
  obtain ⟨d1, hd1⟩ := Int.eq_ofNat_of_zero_le (show 0 ≤ ex - e by omega)
  obtain ⟨d2, hd2⟩ := Int.eq_ofNat_of_zero_le (show 0 ≤ ey - e by omega)
  have e1 : IntKind.wrap .i64 (d1 : Int) = (d1 : Int) := wrapI (by omega)
  have e2 : IntKind.wrap .i64 (d2 : Int) = (d2 : Int) := wrapI (by omega)
  have g1 : X < 2 ^ 100000 := Nat.lt_trans hX (Nat.pow_lt_pow_right (by decide) (by decide))
  have g2 : Y < 2 ^ 100000 := Nat.lt_trans hY (Nat.pow_lt_pow_right (by decide) (by decide))
  have p1 := T127_h g1 d1 (by omega)
  have p2 := T127_h g2 d2 (by omega)
  have k1 := Nat.lt_trans (sft_lt hX (d := d1) (by omega)) (Nat.pow_lt_pow_right (a := 2) (n := 100000) (by decide) (by decide))
  have k2 := Nat.lt_trans (sft_lt hY (d := d2) (by omega)) (Nat.pow_lt_pow_right (a := 2) (n := 100000) (by decide) (by decide))
  have p3 := T128_h k1 k2
  have p4 := T129_eq _ _ k1 k2
  simp only [e1, e2, pre127 p1, fun127 p1, pre127 p2, fun127 p2, cond_true, hd1, hd2, Int.toNat_natCast]
  generalize X * 2 ^ d1 = a at *
  generalize Y * 2 ^ d2 = b at *
  by_cases hn : nx = ny
  · subst hn
    have : (nx == nx) = true := by cases nx <;> rfl
    rw [this, cond_true, if_pos rfl]
    simp only [pre128 p3, fun128 p3, cond_true]
  · have : (nx == ny) = false := by cases nx <;> cases ny <;> first | rfl | exact absurd rfl hn
    rw [this, cond_false, if_neg hn]
    simp only [pre129 p4, fun129 p4, cond_true]
    by_cases hle : b ≤ a
    · have p5 := T130_h k1 hle
      have z : decide ((if a = b then (0 : Int) else if a < b then -1 else 1) ≥ 0) = true := by
        by_cases hab : a = b
        · rw [if_pos hab]; rfl
        · rw [if_neg hab, if_neg (by omega)]; rfl
      simp only [z, cond_true, pre130 p5, fun130 p5, if_pos hle]
    · have p5 := T130_h (y := a) k2 (by omega)
      have z : decide ((if a = b then (0 : Int) else if a < b then -1 else 1) ≥ 0) = false := by
        rw [if_neg (by omega), if_pos (by omega)]; rfl
      simp only [z, cond_false, pre130 p5, fun130 p5, if_neg hle, cond_true]
theorem sumD_bound (nx : Bool) (X : Nat) (ex : Int) (ny : Bool) (Y : Nat) (ey : Int) (hX : X < 2 ^ 53) (hY : Y < 2 ^ 53) (hex : -2000 ≤ ex ∧ ex ≤ 2000) (hey : -2000 ≤ ey ∧ ey ≤ 2000) :
    (sumD nx X ex ny Y ey).2.1 < 2 ^ 6000 ∧ -6000 ≤ (sumD nx X ex ny Y ey).2.2 ∧ (sumD nx X ex ny Y ey).2.2 ≤ 6000 := by
  have g1 : X < 2 ^ 6000 := Nat.lt_trans hX (Nat.pow_lt_pow_right (by decide) (by decide))
  have g2 : Y < 2 ^ 6000 := Nat.lt_trans hY (Nat.pow_lt_pow_right (by decide) (by decide))
  unfold sumD
  dsimp only
  have he : (if ey < ex then ey else ex) ≤ ex ∧ (if ey < ex then ey else ex) ≤ ey ∧ -2000 ≤ (if ey < ex then ey else ex) := by split <;> omega
  generalize (if ey < ex then ey else ex) = e at *
  have k1 := sft_lt hX (d := (ex - e).toNat) (by omega)
  have k2 := sft_lt hY (d := (ey - e).toNat) (by omega)
  have k3 : 2 ^ 5053 + 2 ^ 5053 ≤ 2 ^ 6000 := by
    rw [← Nat.two_mul, ← Nat.pow_succ']
    exact Nat.pow_le_pow_right (by decide) (by decide)
  generalize X * 2 ^ (ex - e).toNat = a at *
  generalize Y * 2 ^ (ey - e).toNat = b at *
  generalize 2 ^ 5053 = P at *
  generalize 2 ^ 6000 = P2 at *
  split
  · exact ⟨g2, by dsimp only; omega, by dsimp only; omega⟩
  split
  · exact ⟨g1, by dsimp only; omega, by dsimp only; omega⟩
  split
  · exact ⟨by dsimp only; omega, by dsimp only; omega, by dsimp only; omega⟩
  split
  · exact ⟨by dsimp only; omega, by dsimp only; omega, by dsimp only; omega⟩
  · exact ⟨by dsimp only; omega, by dsimp only; omega, by dsimp only; omega⟩
/-- both ways round alike -/
theorem sum_same {f m : Int} (hf : Fm f) (nx : Bool) (X : Nat) (ex : Int) (ny : Bool) (Y : Nat) (ey : Int) (zn : Bool) (hz : zn = if X = 0 ∧ Y = 0 ∧ nx = ny then nx else (m == 4)) :
    (if (sumD nx X ex ny Y ey).2.1 = 0 then (sgnF f zn, 0) else rndN f m (sumD nx X ex ny Y ey).1 (sumD nx X ex ny Y ey).2.1 (sumD nx X ex ny Y ey).2.2 false) = sumBits f m nx X ex ny Y ey := by
  by_cases hX : X = 0
  · subst hX
    rw [sum_comm, sum_zero hf]
    unfold sumD
    rw [if_pos rfl]
    dsimp only
    by_cases hY : Y = 0
    · rw [if_pos hY, if_pos hY, hz]
      by_cases hn : nx = ny
      · rw [if_pos ⟨rfl, hY, hn⟩, if_pos hn.symm, hn]
      · rw [if_neg (fun h => hn h.2.2), if_neg (Ne.symm hn)]
    · rw [if_neg hY, if_neg hY]
  by_cases hY : Y = 0
  · subst hY
    rw [sum_zero hf, if_neg hX]
    unfold sumD
    rw [if_neg hX, if_pos rfl]
    dsimp only
    rw [if_neg hX]
  rw [if_neg (fun h => hX h.1)] at hz
  subst hz
  obtain ⟨e, he⟩ : ∃ e, (if ex ≤ ey then ex else ey) = e := ⟨_, rfl⟩
  obtain ⟨a, ha⟩ : ∃ a, X * 2 ^ (ex - e).toNat = a := ⟨_, rfl⟩
  obtain ⟨b, hb⟩ : ∃ b, Y * 2 ^ (ey - e).toNat = b := ⟨_, rfl⟩
  have he2 : (if ey < ex then ey else ex) = e := by rw [← he]; split <;> split <;> omega
  have hD : sumD nx X ex ny Y ey = if nx = ny then (nx, a + b, e) else if b ≤ a then (nx, a - b, e) else (ny, b - a, e) := by
    unfold sumD
    rw [if_neg hX, if_neg hY]
    simp only [he2, ha, hb]
  have hS : sumBits f m nx X ex ny Y ey = if nx = ny then (if a + b = 0 then (sgnF f nx, 0) else rndN f m nx (a + b) e false)
      else if a = b then (sgnF f (m == 4), 0) else if b < a then rndN f m nx (a - b) e false else rndN f m ny (b - a) e false := by
    unfold sumBits
    simp only [he, ha, hb]
  have ha0 : 0 < a := by rw [← ha]; exact Nat.mul_pos (by omega) (Nat.two_pow_pos _)
  have hb0 : 0 < b := by rw [← hb]; exact Nat.mul_pos (by omega) (Nat.two_pow_pos _)
  rw [hD, hS]
  by_cases hn : nx = ny
  · rw [if_pos hn, if_pos hn]
    dsimp only
    rw [if_neg (by omega), if_neg (by omega)]
  · rw [if_neg hn, if_neg hn]
    rcases Nat.lt_trichotomy a b with h | h | h
    · rw [if_neg (show ¬ b ≤ a by omega)]
      dsimp only
      rw [if_neg (show ¬ b - a = 0 by omega), if_neg (show ¬ a = b by omega), if_neg (show ¬ b < a by omega)]
    · rw [if_pos (show b ≤ a by omega)]
      dsimp only
      rw [if_pos (show a - b = 0 by omega), if_pos h]
    · rw [if_pos (show b ≤ a by omega)]
      dsimp only
      rw [if_neg (show ¬ a - b = 0 by omega), if_neg (show ¬ a = b by omega), if_pos h]
theorem fits_iff {f : Int} (hf : Fm f) {a : Nat} (ha : a < 2 ^ 64) : T68 (f, (a : Int), ()) = some (decide (chk f a = 0), ()) := by
  show t68 S67.pre S67.F f a = _
  unfold t68
  have p0 := T67_ok hf
  have hW := fW_le hf
  have h2 := fP_lt hf
  simp only [pre67 p0, fun67 p0, cond_true]
  have e1 : IntKind.wrap .u64 (fW f : Int) = (fW f : Int) := wu_id _ (by omega)
  rw [e1, shrN _ _ hW, nbeq0]
  have hc : chk f a = 0 ↔ a < 2 ^ fW f := by
    unfold chk; rw [if_pos hf]; split <;> simp_all
  have : (((fW f : Int) == 64) || (a / 2 ^ fW f == 0)) = decide (chk f a = 0) := by
    rw [Bool.eq_iff_iff, Bool.or_eq_true, beq_iff_eq, beq_iff_eq, decide_eq_true_eq, hc]
    constructor
    · rintro (h | h)
      · have : fW f = 64 := by omega
        rw [this]; exact ha
      · rw [Nat.div_eq_zero_iff] at h
        rcases h with h | h
        · have := Nat.two_pow_pos (fW f); omega
        · exact h
    · intro h
      right
      exact Nat.div_eq_of_lt h
  rw [this]
theorem T73_eq (f m : Int) : T73 (f, m, ()) = some ((if Fm f then (if 0 ≤ m ∧ m ≤ 5 then 0 else 3) else 2), ()) := by
  show t73 S67.pre S67.F f m = _
  unfold t73
  by_cases hf : Fm f
  · have p0 := T67_ok hf
    have h2 := fP_lt hf
    have e0 : ((fW f : Int) == 0) = false := beq0_f _ (by omega)
    simp only [pre67 p0, fun67 p0, cond_true, e0, cond_false, if_pos hf]
    by_cases hm : 0 ≤ m ∧ m ≤ 5
    · rw [if_pos hm, decide_eq_false (p := m < 0) (by omega), decide_eq_false (p := m > 5) (by omega)]; rfl
    · rw [if_neg hm]
      have : (decide (m < 0) || decide (m > 5)) = true := by
        by_cases h : m < 0
        · rw [decide_eq_true h]; rfl
        · rw [decide_eq_true (p := m > 5) (by omega), Bool.or_true]
      rw [this]; rfl
  · have p0 := T67_bad hf
    simp only [pre67 p0, fun67 p0, cond_true, if_neg hf]
    rfl
/-- a number's mantissa and its exponent -/
def mant (f : Int) (a : Nat) : Nat := if eF f a = 0 then mF f a else mF f a + 2 ^ (fP f - 1)
def xpn (f : Int) (a : Nat) : Int := 1 - (fX f : Int) - (fP f : Int) + 1 + (if eF f a = 0 then 0 else (eF f a : Int) - 1)
theorem mF_lt (f : Int) (a : Nat) : mF f a < 2 ^ (fP f - 1) := Nat.mod_lt _ (Nat.two_pow_pos _)
theorem mant_lt {f : Int} (hf : Fm f) (a : Nat) : mant f a < 2 ^ 53 := by
  have h1 := mF_lt f a
  have h2 := fP_ge hf
  have h3 := fP_lt hf
  have h4 := fW_le hf
  have h5 : 2 ^ (fP f - 1) ≤ 2 ^ 52 := Nat.pow_le_pow_right (by decide) (by rcases Fm_cases hf with rfl | rfl | rfl | rfl <;> decide)
  unfold mant
  split <;> omega
theorem eF_lt {f : Int} (hf : Fm f) (a : Nat) : eF f a < 2048 := by
  have : 2 ^ (fW f - fP f) ≤ 2 ^ 11 := Nat.pow_le_pow_right (by decide) (by rcases Fm_cases hf with rfl | rfl | rfl | rfl <;> decide)
  have h : eF f a < 2 ^ (fW f - fP f) := Nat.mod_lt _ (Nat.two_pow_pos _)
  omega
theorem xpn_bound {f : Int} (hf : Fm f) (a : Nat) : -2000 ≤ xpn f a ∧ xpn f a ≤ 2000 := by
  have h1 := eF_lt hf a
  have h2 := fX_le hf
  have h3 := fP_le hf
  have h4 := fX_ge hf
  have h5 := fP_ge hf
  have h6 : (eF f a : Int) ≤ 2 * fX f + 1 := by
    have : eF f a < 2 ^ (fW f - fP f) := Nat.mod_lt _ (Nat.two_pow_pos _)
    have := fX_eq hf
    omega
  unfold xpn
  split <;> omega
/-- a pattern opened by the reference -/
theorem T74_eq {f : Int} (hf : Fm f) {a : Nat} (h : chk f a = 0) : T74 (f, (a : Int), ()) =
    some (if eF f a = fullF f then (mF f a != 0, (mF f a != 0) && (mF f a / 2 ^ (fP f - 2) == 0), mF f a == 0, sF f a, (false, [], 0, ()), ())
      else (false, false, false, sF f a, (sF f a, Dh (mant f a), xpn f a, ()), ()), ()) := by
  have ha := pat_lt h
  have haW := (chk_zero h).2
  show t74 S67.pre S67.F S125.pre S125.F f a = _
  unfold t74
  have h1 := fP_ge hf
  have h2 := fP_lt hf
  have h3 := fW_le hf
  have h4 := fX_le hf
  have h5 := fP_le hf
  have h6 := fX_ge hf
  have hE := eF_lt hf a
  have hM := mF_lt f a
  have hPp : 2 ^ (fP f - 1) ≤ 2 ^ 52 := Nat.pow_le_pow_right (by decide) (by omega)
  have hpp := Nat.two_pow_pos (fP f - 1)
  have hWp := Nat.two_pow_pos (fW f - fP f)
  have hWq : 2 ^ (fW f - fP f) ≤ 2 ^ 11 := Nat.pow_le_pow_right (by decide) (by rcases Fm_cases hf with rfl | rfl | rfl | rfl <;> decide)
  have p0 := T67_ok hf
  have e1 : IntKind.wrap .u64 (IntKind.wrap .i64 ((fP f : Int) - 1)) = ((fP f - 1 : Nat) : Int) := by rw [wsub1 _ (by omega), wu_id _ (by omega)]
  have e2 : IntKind.wrap .u64 (IntKind.wrap .i64 ((fW f : Int) - (fP f : Int))) = ((fW f - fP f : Nat) : Int) := by rw [wsubn _ _ (by omega), wu_id _ (by omega)]
  have e3 : IntKind.wrap .u64 (IntKind.wrap .i64 ((fW f : Int) - 1)) = ((fW f - 1 : Nat) : Int) := by rw [wsub1 _ (by omega), wu_id _ (by omega)]
  have e4 : IntKind.wrap .u64 (IntKind.wrap .i64 ((fP f : Int) - 2)) = ((fP f - 2 : Nat) : Int) := by rw [wrapI (by omega), wrapU (by omega)]; omega
  have e5 : IntKind.wrap .u64 (((2 ^ (fW f - fP f) : Nat) : Int) - 1) = ((2 ^ (fW f - fP f) - 1 : Nat) : Int) := wu_sub _ 1 (by omega)
  have e6 : IntKind.wrap .u64 (((2 ^ (fP f - 1) : Nat) : Int) - 1) = ((2 ^ (fP f - 1) - 1 : Nat) : Int) := wu_sub _ 1 (by omega)
  have e7 : shlI .i64 1 ((fW f - fP f : Nat) : Int) = ((2 ^ (fW f - fP f) : Nat) : Int) := by
    rcases Fm_cases hf with rfl | rfl | rfl | rfl <;> decide
  have e8 : IntKind.wrap .i64 (((2 ^ (fW f - fP f) : Nat) : Int) - 1) = ((fullF f : Nat) : Int) := wsub1 _ (by omega)
  have e9 : andI .u64 ((a / 2 ^ (fP f - 1) : Nat) : Int) ((2 ^ (fW f - fP f) - 1 : Nat) : Int) = ((eF f a : Nat) : Int) := andI_mask (Nat.lt_of_le_of_lt (Nat.div_le_self _ _) ha) (by omega)
  have e10 : IntKind.wrap .i64 ((eF f a : Nat) : Int) = ((eF f a : Nat) : Int) := wrapI (by omega)
  have e11 : andI .u64 (a : Int) ((2 ^ (fP f - 1) - 1 : Nat) : Int) = ((mF f a : Nat) : Int) := andI_mask ha (by omega)
  have e12 : andI .u64 ((a / 2 ^ (fW f - 1) : Nat) : Int) 1 = ((a / 2 ^ (fW f - 1) % 2 ^ 1 : Nat) : Int) := andI_mask (n := 1) (Nat.lt_of_le_of_lt (Nat.div_le_self _ _) ha) (by omega)
  have e13 : (((a / 2 ^ (fW f - 1) % 2 ^ 1 : Nat) : Int) == 1) = sF f a := by
    have hq : a / 2 ^ (fW f - 1) < 2 := by
      rw [Nat.div_lt_iff_lt_mul (Nat.two_pow_pos _), ← Nat.pow_succ', Nat.succ_eq_add_one, Nat.sub_add_cancel (by omega)]
      exact haW
    unfold sF
    rw [show ((1 : Int)) = ((1 : Nat) : Int) from rfl, nbeq]
    rcases (show ∀ q : Nat, q < 2 → q = 0 ∨ q = 1 from fun q h => by omega) _ hq with hh | hh <;> rw [hh] <;> rfl
  have e14 : IntKind.wrap .i64 (IntKind.wrap .i64 ((1 - (fX f : Int)) - (fP f : Int)) + 1) = 1 - (fX f : Int) - (fP f : Int) + 1 := by
    rw [wrapI (n := _ - (fP f : Int)) (by omega), wrapI (by omega)]
  have e15 : IntKind.wrap .u64 (((mF f a : Nat) : Int) + ((2 ^ (fP f - 1) : Nat) : Int)) = ((mF f a + 2 ^ (fP f - 1) : Nat) : Int) := wu_add _ _ (by omega)
  have s1 : shlI .u64 1 ((fP f - 1 : Nat) : Int) = ((2 ^ (fP f - 1) : Nat) : Int) := shlI_one (by omega)
  have s2 : shlI .u64 1 ((fW f - fP f : Nat) : Int) = ((2 ^ (fW f - fP f) : Nat) : Int) := shlI_one (by omega)
  have r1 : shrI .u64 (a : Int) ((fP f - 1 : Nat) : Int) = ((a / 2 ^ (fP f - 1) : Nat) : Int) := shrN _ _ (by omega)
  have r2 : shrI .u64 (a : Int) ((fW f - 1 : Nat) : Int) = ((a / 2 ^ (fW f - 1) : Nat) : Int) := shrN _ _ (by omega)
  have r3 : shrI .u64 ((mF f a : Nat) : Int) ((fP f - 2 : Nat) : Int) = ((mF f a / 2 ^ (fP f - 2) : Nat) : Int) := shrN _ _ (by omega)
  simp only [pre67 p0, fun67 p0, cond_true, e1, e2, e3, e4, s1, s2, r1, r2, e5, e6, e7, e8, e9, e10, e11, e12, e13, e14, e15, r3]
  by_cases hfull : eF f a = fullF f
  · rw [nbeq, show (eF f a == fullF f) = true by simp [hfull], cond_true, if_pos hfull, nbne0, nbeq0, nbeq0]
  · rw [nbeq, show (eF f a == fullF f) = false by simp [hfull], cond_false, if_neg hfull]
    by_cases h0 : eF f a = 0
    · have p1 := T125_one (x := mF f a) (by omega)
      have hg : decide (((eF f a : Nat) : Int) > 0) = false := decide_eq_false (by omega)
      have hm : mant f a = mF f a := by unfold mant; rw [if_pos h0]
      have hx : xpn f a = 1 - (fX f : Int) - (fP f : Int) + 1 := by unfold xpn; rw [if_pos h0, Int.add_zero]
      simp only [hg, cond_false, pre125 p1, fun125 p1, cond_true, hm, hx]
    · have p1 := T125_one (x := mF f a + 2 ^ (fP f - 1)) (by omega)
      have hg : decide (((eF f a : Nat) : Int) > 0) = true := decide_eq_true (by omega)
      have hm : mant f a = mF f a + 2 ^ (fP f - 1) := by unfold mant; rw [if_neg h0]
      have hx : IntKind.wrap .i64 ((1 - (fX f : Int) - (fP f : Int) + 1) + IntKind.wrap .i64 (((eF f a : Nat) : Int) - 1)) = xpn f a := by
        unfold xpn; rw [if_neg h0, wrapI (n := ((eF f a : Nat) : Int) - 1) (by omega), wrapI (by omega)]
      simp only [hg, cond_true, pre125 p1, fun125 p1, hm, hx]
/-- is it without end -/
def isInf (f : Int) (a : Nat) : Bool := eF f a == fullF f && mF f a == 0
/-- what a sum answers -/
def addR (f m : Int) (a b : Nat) : Int × Int × Int × Unit :=
  bif snan f a || snan f b then ((nanF f : Int), 1, 0, ())
  else bif nan f a || nan f b then ((nanF f : Int), 0, 0, ())
  else bif (isInf f a && isInf f b) && !(sF f a == sF f b) then ((nanF f : Int), 1, 0, ())
  else bif isInf f a then ((a : Int), 0, 0, ())
  else bif isInf f b then ((b : Int), 0, 0, ())
  else (((sumBits f m (sF f a) (mant f a) (xpn f a) (sF f b) (mant f b) (xpn f b)).1 : Int), ((sumBits f m (sF f a) (mant f a) (xpn f a) (sF f b) (mant f b) (xpn f b)).2 : Int), 0, ())
def addA (f m : Int) (a b : Nat) : Int × Int × Int × Unit :=
  if Fm f then (if 0 ≤ m ∧ m ≤ 5 then (if chk f a = 0 ∧ chk f b = 0 then addR f m a b else (0, 0, 4, ())) else (0, 0, 3, ())) else (0, 0, 2, ())
theorem T76_num (s s' : Bool) (X : Nat) (e : Int) : T76 ((false, false, false, s, (s', Dh X, e, ()), ()), ()) = some (decide (X = 0), ()) := by
  show t76 (false, false, false, s, (s', Dh X, e, ()), ()) = _
  unfold t76
  dsimp only
  rw [Dh_len0]; rfl
theorem full_vals {f : Int} {a : Nat} (h : eF f a = fullF f) : nan f a = (!(mF f a == 0)) ∧ snan f a = (!(mF f a == 0) && (mF f a / 2 ^ (fP f - 2) == 0)) ∧ isInf f a = (mF f a == 0) := by
  unfold snan nan isInf
  rw [h]
  simp [bne]
theorem part_vals {f : Int} {a : Nat} (h : eF f a ≠ fullF f) : nan f a = false ∧ snan f a = false ∧ isInf f a = false := by
  unfold snan nan isInf
  simp [h]
theorem T28_eq (f m : Int) {a b : Nat} (ha : a < 2 ^ 64) (hb : b < 2 ^ 64) : T28 (f, m, (a : Int), (b : Int), ()) = some (addA f m a b) := by
  show t28 S73.pre S73.F S68.pre S68.F S74.pre S74.F S75.pre S75.F S76.pre S76.F S78.pre S78.F S77.pre S77.F f m a b = _
  unfold t28 addA
  have p0 := T73_eq f m
  by_cases hf : Fm f
  · rw [if_pos hf] at p0 ⊢
    by_cases hm : 0 ≤ m ∧ m ≤ 5
    · rw [if_pos hm] at p0 ⊢
      have p1 := fits_iff hf ha
      have p2 := fits_iff hf hb
      simp only [pre73 p0, fun73 p0, pre68 p1, fun68 p1, pre68 p2, fun68 p2, bne_self_eq_false, cond_false, cond_true, Bool.true_or]
      by_cases hca : chk f a = 0
      · by_cases hcb : chk f b = 0
        · rw [if_pos ⟨hca, hcb⟩, decide_eq_true hca, decide_eq_true hcb]
          have p3 := T74_eq hf hca
          have p4 := T74_eq hf hcb
          have p5 := T75_ok hf
          have nb : ∀ n : Nat, (n != 0) = !(n == 0) := fun _ => rfl
          rw [nb] at p3 p4
          unfold addR
          by_cases fa : eF f a = fullF f
          · rw [if_pos fa] at p3
            obtain ⟨v1, v2, v3⟩ := full_vals fa
            rw [v1, v2, v3]
            generalize (mF f a == 0) = x1 at *
            generalize (mF f a / 2 ^ (fP f - 2) == 0) = q1 at *
            by_cases fb : eF f b = fullF f
            · rw [if_pos fb] at p4
              obtain ⟨w1, w2, w3⟩ := full_vals fb
              rw [w1, w2, w3]
              generalize (mF f b == 0) = x2 at *
              generalize (mF f b / 2 ^ (fP f - 2) == 0) = q2 at *
              simp only [Bool.not_true, Bool.or_self, cond_false, pre74 p3, fun74 p3, pre74 p4, fun74 p4, cond_true, pre75 p5, fun75 p5]
              cases x1 <;> cases q1 <;> cases x2 <;> cases q2 <;> cases sF f a <;> cases sF f b <;> rfl
            · rw [if_neg fb] at p4
              obtain ⟨w1, w2, w3⟩ := part_vals fb
              rw [w1, w2, w3]
              simp only [Bool.not_true, Bool.or_self, cond_false, pre74 p3, fun74 p3, pre74 p4, fun74 p4, cond_true, pre75 p5, fun75 p5]
              cases x1 <;> cases q1 <;> cases sF f a <;> cases sF f b <;> rfl
          · rw [if_neg fa] at p3
            obtain ⟨v1, v2, v3⟩ := part_vals fa
            rw [v1, v2, v3]
            by_cases fb : eF f b = fullF f
            · rw [if_pos fb] at p4
              obtain ⟨w1, w2, w3⟩ := full_vals fb
              rw [w1, w2, w3]
              generalize (mF f b == 0) = x2 at *
              generalize (mF f b / 2 ^ (fP f - 2) == 0) = q2 at *
              simp only [Bool.not_true, Bool.or_self, cond_false, pre74 p3, fun74 p3, pre74 p4, fun74 p4, cond_true, pre75 p5, fun75 p5]
              cases x2 <;> cases q2 <;> cases sF f a <;> cases sF f b <;> rfl
            · rw [if_neg fb] at p4
              obtain ⟨w1, w2, w3⟩ := part_vals fb
              rw [w1, w2, w3]
              have p6 := T76_num (sF f a) (sF f a) (mant f a) (xpn f a)
              have p7 := T76_num (sF f b) (sF f b) (mant f b) (xpn f b)
              have p8 := T78_eq (sF f a) (mant f a) (xpn f a) (sF f b) (mant f b) (xpn f b) (mant_lt hf a) (mant_lt hf b) (xpn_bound hf a) (xpn_bound hf b)
              have hbd := sumD_bound (sF f a) (mant f a) (xpn f a) (sF f b) (mant f b) (xpn f b) (mant_lt hf a) (mant_lt hf b) (xpn_bound hf a) (xpn_bound hf b)
              have hss := fun zn => sum_same (m := m) hf (sF f a) (mant f a) (xpn f a) (sF f b) (mant f b) (xpn f b) zn
              have p9 := fun zn => T77_eq hf hm (sumD (sF f a) (mant f a) (xpn f a) (sF f b) (mant f b) (xpn f b)).1 (sumD (sF f a) (mant f a) (xpn f a) (sF f b) (mant f b) (xpn f b)).2.1 (sumD (sF f a) (mant f a) (xpn f a) (sF f b) (mant f b) (xpn f b)).2.2 zn hbd.1 hbd.2
              generalize sumD (sF f a) (mant f a) (xpn f a) (sF f b) (mant f b) (xpn f b) = D at *
              simp only [Bool.not_true, Bool.or_self, cond_false, pre74 p3, fun74 p3, pre74 p4, fun74 p4, cond_true, pre76 p6, fun76 p6, pre76 p7, fun76 p7, Bool.true_or, pre78 p8, fun78 p8, Bool.false_and, Bool.and_false]
              by_cases hz : mant f a = 0 ∧ mant f b = 0 ∧ sF f a = sF f b
              · have hg : ((decide (mant f a = 0) && decide (mant f b = 0)) && (sF f a == sF f b)) = true := by
                  rw [decide_eq_true hz.1, decide_eq_true hz.2.1, hz.2.2]; cases sF f b <;> rfl
                have p10 := p9 (sF f a)
                have hs2 := hss (sF f a) (by rw [if_pos hz])
                simp only [hs2] at p10
                simp only [hg, cond_true, pre77 p10, fun77 p10]
              · have hg : ((decide (mant f a = 0) && decide (mant f b = 0)) && (sF f a == sF f b)) = false := by
                  cases hh : ((decide (mant f a = 0) && decide (mant f b = 0)) && (sF f a == sF f b)) with
                  | false => rfl
                  | true =>
                    exfalso
                    simp only [Bool.and_eq_true, decide_eq_true_eq, beq_iff_eq] at hh
                    exact hz ⟨hh.1.1, hh.1.2, hh.2⟩
                have p10 := p9 (m == 4)
                have hs2 := hss (m == 4) (by rw [if_neg hz])
                simp only [hs2] at p10
                simp only [hg, cond_false, pre77 p10, fun77 p10, cond_true]
        · rw [if_neg (fun h => hcb h.2), decide_eq_false hcb]
          cases decide (chk f a = 0) <;> rfl
      · rw [if_neg (fun h => hca h.1), decide_eq_false hca]
        rfl
    · rw [if_neg hm] at p0 ⊢
      simp only [pre73 p0, fun73 p0]
      rfl
  · rw [if_neg hf] at p0 ⊢
    simp only [pre73 p0, fun73 p0]
    rfl
theorem T32_ok {f : Int} {a : Nat} (h : chk f a = 0) : T32 (f, (a : Int), ()) = some ((negF f a : Int), ()) := by
  obtain ⟨hf, h0⟩ := chk_zero h
  show t32 S81.pre S81.F f a = _
  unfold t32
  have h2 := fP_lt hf
  have h3 := fW_le hf
  have p0 := T81_ok hf true
  have e0 : sgnF f true = 2 ^ (fW f - 1) := rfl
  simp only [pre81 p0, fun81 p0, cond_true, e0]
  rw [xorI_bit (by omega) (by rw [Nat.sub_add_cancel (by omega)]; exact h0)]
  have e : (if a < 2 ^ (fW f - 1) then a + 2 ^ (fW f - 1) else a - 2 ^ (fW f - 1)) = negF f a := by
    have hp := pat_mk h
    have hl := abs_lt' (f := f) a
    unfold negF
    unfold mkF at hp ⊢
    cases hs : sF f a <;> rw [hs] at hp <;> simp only [cond_true, cond_false, Bool.not_true, Bool.not_false] at hp ⊢
    · rw [if_pos (by omega)]; omega
    · rw [if_neg (by omega)]; omega
  rw [e]
/-- and a difference -/
def subA (f m : Int) (a b : Nat) : Int × Int × Int × Unit := addA f m a (if chk f b = 0 then negF f b else b)
theorem neg_pat {f : Int} {b : Nat} (h : chk f b = 0) : negF f b < 2 ^ 64 := pat_lt (neg_chk (chk_zero h).1 b)
theorem T26_eq (f m : Int) {a b : Nat} (ha : a < 2 ^ 64) (hb : b < 2 ^ 64) : T26 (f, m, (a : Int), (b : Int), ()) = some (subA f m a b) := by
  show t26 S67.pre S67.F S68.pre S68.F S32.pre S32.F S28.pre S28.F f m a b = _
  unfold t26 subA
  have pA := T28_eq f m ha hb
  by_cases hf : Fm f
  · have p0 := T67_ok hf
    have p1 := fits_iff hf hb
    have h2 := fP_lt hf
    have e0 : ((fW f : Int) == 0) = false := beq0_f _ (by omega)
    simp only [pre67 p0, fun67 p0, cond_true, e0, pre68 p1, fun68 p1, Bool.true_or, Bool.false_or]
    by_cases h : chk f b = 0
    · have p2 := T32_ok h
      have p3 := T28_eq f m ha (neg_pat h)
      rw [if_pos h, decide_eq_true h]
      simp only [Bool.not_true, cond_false, pre32 p2, fun32 p2, cond_true, pre28 p3, fun28 p3]
    · rw [if_neg h, decide_eq_false h]
      simp only [Bool.not_false, pre28 pA, fun28 pA, cond_true]
  · have p0 := T67_bad hf
    have h : ¬ chk f b = 0 := by rw [chk_bad hf]; decide
    rw [if_neg h]
    simp only [pre67 p0, fun67 p0, cond_true, beq_self_eq_true, cond_false, Bool.not_false, Bool.or_true, Bool.true_or, pre28 pA, fun28 pA]
end VL
namespace VL
open Go Vx
theorem T98_ok {f : Int} {a : Nat} (h : chk f a = 0) : T98 (f, (a : Int), ()) = some (sF f a, (eF f a : Int), (mF f a : Int), 0, ()) := by
  obtain ⟨hf, h0⟩ := chk_zero h
  have ha := pat_lt h
  show t98 S66.pre S66.F S90.pre S90.F f a = _
  unfold t98
  have p0 := T66_eq f a ha
  have p2 := T90_eq hf a ha
  have hr1 : decide (0 ≤ f) = true := decide_eq_true hf.1
  have hr2 : decide (f < ((4 : Nat) : Int)) = true := decide_eq_true hf.2
  simp only [row_at hf, hr1, hr2, pre66 p0, fun66 p0, pre90 p2, fun90 p2, h, cond_true, bne_self_eq_false, cond_false]
theorem T72_ok {f : Int} {a : Nat} (h : chk f a = 0) : T72 (f, rowOf f, (a : Int), ()) = some ((sF f a, (mant f a : Int), xpn f a, ()), ()) := by
  obtain ⟨hf, h0⟩ := chk_zero h
  show t72 S98.pre S98.F f (rowOf f) a = _
  unfold t72
  have h1 := fP_ge hf
  have h3 := fP_le hf
  have h4 := fX_le hf
  have hE := eF_lt hf a
  have hM := mF_lt f a
  have hPp : 2 ^ (fP f - 1) ≤ 2 ^ 52 := Nat.pow_le_pow_right (by decide) (by omega)
  have p0 := T98_ok h
  have r1 : (rowOf f).2.1 = (fP f : Int) := rfl
  have r2 : (rowOf f).2.2.1 = 1 - (fX f : Int) := rfl
  have e0 : IntKind.wrap .i64 ((fP f : Int) - 1) = ((fP f - 1 : Nat) : Int) := wsub1 _ (by omega)
  have e1 : IntKind.wrap .i64 (IntKind.wrap .i64 ((1 - (fX f : Int)) - (fP f : Int)) + 1) = 1 - (fX f : Int) - (fP f : Int) + 1 := by
    rw [wrapI (n := _ - (fP f : Int)) (by omega), wrapI (by omega)]
  have e2 : IntKind.wrap .i64 (eF f a : Int) = (eF f a : Int) := wrapI (by omega)
  have e3 : shlI .u64 1 ((fP f - 1 : Nat) : Int) = ((2 ^ (fP f - 1) : Nat) : Int) := shlI_one (by omega)
  have e4 : orI .u64 (mF f a : Int) ((2 ^ (fP f - 1) : Nat) : Int) = ((mF f a + 2 ^ (fP f - 1) : Nat) : Int) := by
    have := orN (a := mF f a) (b := 1) (k := fP f - 1) hM (by omega)
    rwa [Nat.one_mul] at this
  simp only [pre98 p0, fun98 p0, cond_true, r1, r2, e0, e1, e2, e3, e4, nnn]
  by_cases hz : eF f a = 0
  · have hg : decide ((eF f a : Int) > 0) = false := decide_eq_false (by omega)
    have hm : mant f a = mF f a := by unfold mant; rw [if_pos hz]
    have hx : xpn f a = 1 - (fX f : Int) - (fP f : Int) + 1 := by unfold xpn; rw [if_pos hz, Int.add_zero]
    rw [hg, cond_false, hm, hx]
  · have hg : decide ((eF f a : Int) > 0) = true := decide_eq_true (by omega)
    have hm : mant f a = mF f a + 2 ^ (fP f - 1) := by unfold mant; rw [if_neg hz]
    have hx : IntKind.wrap .i64 ((1 - (fX f : Int) - (fP f : Int) + 1) + IntKind.wrap .i64 ((eF f a : Int) - 1)) = xpn f a := by
      unfold xpn; rw [if_neg hz, wrapI (n := (eF f a : Int) - 1) (by omega), wrapI (by omega)]
    rw [hg, cond_true, hm, hx]
theorem cls_isInf (f : Int) (a : Nat) : (cls f a == 2 || cls f a == 9) = isInf f a := by
  unfold cls isInf
  cases eF f a == fullF f <;> cases eF f a == 0 <;> cases mF f a == 0 <;> cases sF f a <;> cases mF f a / 2 ^ (fP f - 2) != 0 <;> rfl
theorem cls_signs (f : Int) (a b : Nat) : ((isInf f a && isInf f b) && (cls f a != cls f b)) = ((isInf f a && isInf f b) && !(sF f a == sF f b)) := by
  unfold cls isInf
  cases eF f a == fullF f <;> cases mF f a == 0 <;> cases eF f b == fullF f <;> cases mF f b == 0 <;> first | rfl | (cases sF f a <;> cases sF f b <;> rfl)
theorem T27_eq (f m : Int) {a b : Nat} (ha : a < 2 ^ 64) (hb : b < 2 ^ 64) : T27 (f, m, (a : Int), (b : Int), ()) = some (addA f m a b) := by
  show t27 S69.pre S69.F S65.pre S65.F S70.pre S70.F S72.pre S72.F S71.pre S71.F f m a b = _
  unfold t27 addA
  by_cases hf : Fm f
  · rw [if_pos hf]
    have p0 := T69_ok hf
    simp only [pre69 p0, fun69 p0, cond_true, bne_self_eq_false, cond_false]
    by_cases hm : 0 ≤ m ∧ m ≤ 5
    · have hmm : (decide (m < 0) || decide (m > 5)) = false := by
        rw [decide_eq_false (p := m < 0) (by omega), decide_eq_false (p := m > 5) (by omega)]; rfl
      rw [if_pos hm, hmm, cond_false]
      have c4 : ∀ x : Nat, chk f x ≠ 0 → chk f x = 4 := fun x h => by
        unfold chk at h ⊢
        rw [if_pos hf] at h ⊢
        split at h
        · exact absurd rfl h
        · rename_i h1; rw [if_neg h1]
      by_cases hca : chk f a = 0
      · have p1 := T65_ok ha hca
        by_cases hcb : chk f b = 0
        · have p2 := T65_ok hb hcb
          rw [if_pos ⟨hca, hcb⟩]
          have p3 := T70_ok hf
          have p4 := T72_ok hca
          have p5 := T72_ok hcb
          have p6 := T71_eq hf hm (sF f a) (mant f a) (xpn f a) (sF f b) (mant f b) (xpn f b) (mant_lt hf a) (mant_lt hf b) (xpn_bound hf a) (xpn_bound hf b)
          simp only [pre65 p1, fun65 p1, pre65 p2, fun65 p2, cond_true, bne_self_eq_false, cond_false, pre70 p3, fun70 p3, pre72 p4, fun72 p4, pre72 p5, fun72 p5, pre71 p6, fun71 p6, cls_isInf, cls_signs]
          unfold addR
          rw [← cls_snan, ← cls_snan, ← cls_nan, ← cls_nan]
          generalize ((isInf f a && isInf f b) && !(sF f a == sF f b)) = w1
          generalize isInf f a = w2
          generalize isInf f b = w3
          generalize (cls f a == 0) = x1
          generalize (cls f b == 0) = x2
          generalize (cls f a == 1) = x3
          generalize (cls f b == 1) = x4
          cases x1 <;> cases x2 <;> cases x3 <;> cases x4 <;> cases w1 <;> cases w2 <;> cases w3 <;> rfl
        · have p2 := T65_bad hb hcb
          rw [if_neg (fun h => hcb h.2)]
          have hne : (chk f b != 0) = true := by simpa using hcb
          simp only [pre65 p1, fun65 p1, pre65 p2, fun65 p2, cond_true, bne_self_eq_false, cond_false, hne]
          rw [c4 b hcb]
      · have p1 := T65_bad ha hca
        rw [if_neg (fun h => hca h.1)]
        have hne : (chk f a != 0) = true := by simpa using hca
        simp only [pre65 p1, fun65 p1, cond_true, hne]
        rw [c4 a hca]
    · rw [if_neg hm]
      have : (decide (m < 0) || decide (m > 5)) = true := by
        by_cases h : m < 0
        · rw [decide_eq_true h]; rfl
        · rw [decide_eq_true (p := m > 5) (by omega), Bool.or_true]
      rw [this]; rfl
  · rw [if_neg hf]
    have p0 := T69_bad hf
    simp only [pre69 p0, fun69 p0]
    rfl
theorem T25_eq (f m : Int) {a b : Nat} (ha : a < 2 ^ 64) (hb : b < 2 ^ 64) : T25 (f, m, (a : Int), (b : Int), ()) = some (subA f m a b) := by
  show t25 S66.pre S66.F S64.pre S64.F S27.pre S27.F f m a b = _
  unfold t25 subA
  have p0 := T66_eq f b hb
  by_cases h : chk f b = 0
  · have p1 := T64_ok h
    have p2 := T27_eq f m ha (neg_pat h)
    rw [if_pos h]
    simp only [pre66 p0, fun66 p0, h, beq_self_eq_true, cond_true, pre64 p1, fun64 p1, pre27 p2, fun27 p2]
  · have p2 := T27_eq f m ha hb
    have hne : (chk f b == 0) = false := by simpa using h
    rw [if_neg h]
    simp only [pre66 p0, fun66 p0, cond_true, hne, cond_false, pre27 p2, fun27 p2]
theorem t24_true : T24 () = some (true, ()) := by
  have p0 := T27_eq 2 0 (a := 1065353216) (b := 864026624) (by decide) (by decide)
  have p1 := T25_eq 2 4 (a := 1065353216) (b := 1065353216) (by decide) (by decide)
  have v0 : addA 2 0 1065353216 864026624 = (1065353216, 16, 0, ()) := by kernel_rfl
  have v1 : subA 2 4 1065353216 1065353216 = (2147483648, 0, 0, ()) := by kernel_rfl
  rw [v0] at p0
  rw [v1] at p1
  have q0 : T27 (2, 0, 1065353216, 864026624, ()) = some (1065353216, 16, 0, ()) := p0
  have q1 : T25 (2, 4, 1065353216, 1065353216, ()) = some (2147483648, 0, 0, ()) := p1
  show t24 S27.pre S27.F S25.pre S25.F = _
  unfold t24
  simp only [pre27 q0, fun27 q0, pre25 q1, fun25 q1, cond_true]
  rfl
/-- a script's line -/
abbrev Line := Den (.pair (.int .i64) (.pair (.int .i64) (.pair (.int .u64) (.pair (.int .u64) (.pair (.bool) (.unit))))))
def okLine (e : Line) : Prop := (0 ≤ e.2.2.1 ∧ e.2.2.1 < 2 ^ 64) ∧ (0 ≤ e.2.2.2.1 ∧ e.2.2.2.1 < 2 ^ 64)
theorem W6_eq (l : List Line) (hl : ∀ e ∈ l, okLine e) (hlen : l.length < 2 ^ 63) : W6_4 ((l, ((0 : Int), ())), ()) = some (.inl ((), ())) := by
  have key := lfix_ind (m6_4 S24.pre S24.F S25.pre S25.F S26.pre S26.F S27.pre S27.F S28.pre S28.F) (fun x => l.length - x.1.2.1.toNat)
    (fun x => ∃ i : Nat, i ≤ l.length ∧ x = ((l, ((i : Int), ())), ()))
    (fun _ => .inl ((), ())) ?_ ((l, ((0 : Int), ())), ()) ⟨0, Nat.zero_le _, rfl⟩
  · exact key
  intro L x hx hL
  obtain ⟨i, hi, rfl⟩ := hx
  unfold h6_4
  rcases Nat.lt_or_ge i l.length with hlt | hge
  · have hgo := hL ((l, (((i + 1 : Nat) : Int), ())), ()) ⟨i + 1, by omega, rfl⟩ (by simp only [Int.toNat_natCast]; omega)
    have hmem : okLine (l.getD i ((0 : Int), ((0 : Int), ((0 : Int), ((0 : Int), (false, ())))))) := by
      rw [List.getD_eq_getElem?_getD, List.getElem?_eq_getElem hlt]
      exact hl _ (List.getElem_mem hlt)
    have e3 : IntKind.wrap .i64 ((i : Int) + 1) = ((i + 1 : Nat) : Int) := by rw [wrapI (by omega)]; omega
    simp (disch := omega) only [e3, wadd, wadd1, wadd64, wsubn, wsub1, wmul64, ilt_t, ilt_f, ile_t, ile_f, igt_t, igt_f, ige_t, ige_f, ipos_t, ipos_f, igt0_t, igt0_f, nnn, beq0_t, beq0_f, bne0_t, bne0_f, Int.toNat_natCast, Int.toNat_zero, cond_true, cond_false, Bool.and_self, Bool.true_and, Bool.and_true, Bool.false_and, Bool.and_false, Bool.not_true, Bool.not_false, Bool.or_self, Bool.true_or, Bool.or_true, Bool.false_or, Bool.or_false]
    generalize l.getD i ((0 : Int), ((0 : Int), ((0 : Int), ((0 : Int), (false, ()))))) = e at *
    obtain ⟨⟨ha1, ha2⟩, hb1, hb2⟩ := hmem
    obtain ⟨a, ha⟩ := Int.eq_ofNat_of_zero_le ha1
    obtain ⟨b, hb⟩ := Int.eq_ofNat_of_zero_le hb1
    rw [ha] at ha2
    rw [hb] at hb2
    have ha3 : a < 2 ^ 64 := Int.ofNat_lt.1 ha2
    have hb3 : b < 2 ^ 64 := Int.ofNat_lt.1 hb2
    have p25 : T25 (e.1, e.2.1, e.2.2.1, e.2.2.2.1, ()) = some (subA e.1 e.2.1 a b) := by rw [ha, hb]; exact T25_eq _ _ ha3 hb3
    have p26 : T26 (e.1, e.2.1, e.2.2.1, e.2.2.2.1, ()) = some (subA e.1 e.2.1 a b) := by rw [ha, hb]; exact T26_eq _ _ ha3 hb3
    have p27 : T27 (e.1, e.2.1, e.2.2.1, e.2.2.2.1, ()) = some (addA e.1 e.2.1 a b) := by rw [ha, hb]; exact T27_eq _ _ ha3 hb3
    have p28 : T28 (e.1, e.2.1, e.2.2.1, e.2.2.2.1, ()) = some (addA e.1 e.2.1 a b) := by rw [ha, hb]; exact T28_eq _ _ ha3 hb3
    simp only [pre25 p25, fun25 p25, pre26 p26, fun26 p26, pre27 p27, fun27 p27, pre28 p28, fun28 p28, bne_self_eq_false, Bool.or_self, cond_false, cond_true]
    cases e.2.2.2.2.1
    · exact hgo
    · exact hgo
  · simp (disch := omega) only [wadd, wadd1, wadd64, wsubn, wsub1, wmul64, ilt_t, ilt_f, ile_t, ile_f, igt_t, igt_f, ige_t, ige_f, ipos_t, ipos_f, igt0_t, igt0_f, nnn, beq0_t, beq0_f, bne0_t, bne0_f, Int.toNat_natCast, Int.toNat_zero, cond_true, cond_false, Bool.and_self, Bool.true_and, Bool.and_true, Bool.false_and, Bool.and_false, Bool.not_true, Bool.not_false, Bool.or_self, Bool.true_or, Bool.or_true, Bool.false_or, Bool.or_false]
theorem T6_true (l : List Line) (hl : ∀ e ∈ l, okLine e) (hlen : l.length < 2 ^ 63) : T6 (l, ()) = some (true, ()) := by
  show t6 S24.pre S24.F S25.pre S25.F S26.pre S26.F S27.pre S27.F S28.pre S28.F W6_4 l = _
  unfold t6
  simp only [pre24 t24_true, fun24 t24_true, cond_true, Bool.not_true, cond_false, W6_eq l hl hlen]
end VL
namespace Vx
open Go Go.RowKit Go.ChangeShapes Go.WideShapes
/-- numbers in their ranges, lengths below 2^63 -/
def wfD : (τ : Shape) → Den τ → Prop
  | .int k, n => k.min ≤ n ∧ n ≤ k.max
  | .slice e, xs => xs.length < lim ∧ ∀ x ∈ xs, wfD e x
  | .pair a b, x => wfD a x.1 ∧ wfD b x.2
  | .bool, _ => True
  | .str, _ => True
  | .fn, _ => True
  | .unit, _ => True
theorem DRep.wfD {w : World} {S : Nat → Prop} : ∀ {τ : Shape} {x : Den τ} {cs : List Value}, DRep w S τ x cs → wfD τ x
  | .int _, _, _, h => h.2
  | .bool, _, _, _ => trivial
  | .str, _, _, _ => trivial
  | .fn, _, _, _ => trivial
  | .unit, _, _, _ => trivial
  | .slice _, xs, _, ⟨A, c, _, h1, h2, h3⟩ => by
    refine ⟨Nat.lt_of_le_of_lt h1 h2, fun x hx => ?_⟩
    obtain ⟨r, o, vs, T, fz, _, _, _, h⟩ := h3 (List.ne_nil_of_mem hx)
    obtain ⟨i, hi⟩ := List.getElem?_of_mem hx
    obtain ⟨ds, hd, _⟩ := h i x hi
    exact hd.wfD
  | .pair _ _, _, _, ⟨c1, c2, _, h1, h2⟩ => ⟨h1.wfD, h2.wfD⟩
def wfS : (sg : Sig) → DenS sg → Prop
  | [], _ => True
  | (_, τ) :: r, x => wfD τ x.1 ∧ wfS r x.2
/-- what a datum says -/
def undat {H : Type} : (τ : Shape) → (DataW H → Option (Den τ)) × (List (DataW H) → Option (Den τ))
  | .int k => (fun d => match d with | .lit (.int k' n) => if k' = k then some n else none | _ => none, fun _ => none)
  | .bool => (fun d => match d with | .lit (.bool b) => some b | _ => none, fun _ => none)
  | .unit => (fun d => match d with | .agg [] => some () | _ => none, fun l => match l with | [] => some () | _ => none)
  | .pair a b =>
    let f := fun l => match l with
      | d :: r => (match (undat a).1 d, (undat b).2 r with | some x, some y => some (x, y) | _, _ => none)
      | [] => none
    (fun d => match d with | .agg l => f l | _ => none, f)
  | .str => (fun _ => none, fun _ => none)
  | .fn => (fun _ => none, fun _ => none)
  | .slice _ => (fun _ => none, fun _ => none)
/-- a type's shape -/
def fitF (P : Program) (g : TypeId → Shape → Bool) : List Field → Nat → Shape → Bool
  | [], _, .unit => true
  | f :: fs, o, .pair a b => (f.offset == o) && (P.cellsOf f.type == a.width) && g f.type a && fitF P g fs (o + a.width) b
  | _, _, _ => false
def fitB (P : Program) : Nat → TypeId → Shape → Bool
  | 0, _, _ => false
  | n + 1, t, τ => match P.underlying t with
    | some (.int k) => (match τ with | .int k' => decide (k = k') | _ => false)
    | some .bool => (match τ with | .bool => true | _ => false)
    | some (.slice e) => (match τ with | .slice σ => (P.cellsOf e == σ.width) && decide (0 < σ.width) && fitB P n e σ | _ => false)
    | some (.struct fs) => (P.cellsOf t == τ.width) && fitF P (fitB P n) fs.toList 0 τ
    | _ => false
theorem choose_list {A : Type} {Q : Nat → A → Prop} : ∀ (n : Nat), (∀ i, i < n → ∃ x, Q i x) → ∃ xs : List A, xs.length = n ∧ ∀ i x, xs[i]? = some x → Q i x
  | 0, _ => ⟨[], rfl, fun i x h => by simp at h⟩
  | n + 1, h => by
    obtain ⟨xs, h1, h2⟩ := choose_list n fun i hi => h i (by omega)
    obtain ⟨x, hx⟩ := h n (by omega)
    refine ⟨xs ++ [x], by simp [h1], fun i y hy => ?_⟩
    rcases Nat.lt_or_ge i n with hi | hi
    · rw [List.getElem?_append_left (by omega)] at hy
      exact h2 i y hy
    · rw [List.getElem?_append_right (by omega)] at hy
      have : i = n := by
        have := (List.getElem?_eq_some_iff.1 hy).1
        simp at this; omega
      subst this
      simp [h1] at hy
      exact hy ▸ hx
theorem wf_int {k : IntKind} {n : Int} (h : (Lit.int k n).wf = true) : k.min ≤ n ∧ n ≤ k.max := by
  simpa [Lit.wf] using h
section
variable {H : Type} {enc : TypeId × Value → H} {P : Program} {W : World} {spare : Nat → Bool} {held : Bool}
theorem fitF_ok {n : Nat} {m : Nat} {cs : List Value} (ih : ∀ (t : TypeId) (τ : Shape) (cs : List Value) (d : DataW H) (p : List MemPlace), fitB P n t τ = true → DataW.trod enc P W 0 spare held m t cs = some (d, p) → ∃ x : Den τ, DRep W (fun q => q < W.heap.size) τ x cs ∧ ∀ y, (undat τ).1 d = some y → x = y) :
    ∀ (l : List Field) (o : Nat) (τ : Shape) (xs : List (DataW H × List MemPlace)), fitF P (fitB P n) l o τ = true → xs.length = l.length → cs.length = o + τ.width →
      (∀ (i : Nat) (f : Field), l[i]? = some f → DataW.trod enc P W 0 spare held m f.type ((cs.drop f.offset).take (P.cellsOf f.type)) = xs[i]?) →
      ∃ x : Den τ, DRep W (fun q => q < W.heap.size) τ x (cs.drop o) ∧ ∀ y, (undat τ).2 (xs.map (·.1)) = some y → x = y
  | [], o, τ, xs, hf, hx, hl, _ => by
    cases τ <;> simp [fitF] at hf
    refine ⟨(), ?_, fun _ _ => rfl⟩
    show cs.drop o = []
    apply List.drop_eq_nil_of_le
    simp [Shape.width] at hl
    omega
  | f :: fs, o, τ, xs, hf, hx, hl, h => by
    cases τ with
    | pair a b =>
      simp only [fitF, Bool.and_eq_true, beq_iff_eq] at hf
      obtain ⟨⟨⟨ho, hc⟩, hg⟩, hr⟩ := hf
      cases xs with
      | nil => simp at hx
      | cons x0 xs =>
        have h0 := h 0 f rfl
        rw [ho, hc] at h0
        simp only [List.getElem?_cons_zero] at h0
        obtain ⟨xa, ha, hua⟩ := ih f.type a _ x0.1 x0.2 hg h0
        simp only [Shape.width] at hl
        obtain ⟨xb, hb, hub⟩ := fitF_ok ih fs (o + a.width) b xs hr (by simpa using hx) (by rw [hl]; omega) fun i g hi => by
          have := h (i + 1) g (by simpa using hi)
          simpa using this
        refine ⟨(xa, xb), ⟨(cs.drop o).take a.width, cs.drop (o + a.width), ?_, ha, hb⟩, fun y hy => ?_⟩
        · rw [← List.drop_drop, List.take_append_drop]
        · simp only [undat, List.map_cons] at hy
          split at hy
          · rename_i e1 e2
            have := hua _ e1; have := hub _ e2
            subst_vars
            exact Option.some.inj hy
          · cases hy
    | _ => simp [fitF] at hf
theorem fit_ok : ∀ (n : Nat) (m : Nat) (t : TypeId) (τ : Shape) (cs : List Value) (d : DataW H) (p : List MemPlace), fitB P n t τ = true → DataW.trod enc P W 0 spare held m t cs = some (d, p) →
    ∃ x : Den τ, DRep W (fun q => q < W.heap.size) τ x cs ∧ ∀ y, (undat τ).1 d = some y → x = y
  | 0, _, _, _, _, _, _, h, _ => by simp [fitB] at h
  | n + 1, m, t, τ, cs, d, p, h, ht => by
    unfold fitB at h
    split at h
    · rename_i k hk
      cases τ with
      | int k' =>
        simp only [decide_eq_true_eq] at h
        subst h
        obtain ⟨v, hv, hx, hw⟩ := DataW.trod_int hk ht
        simp only [Prod.mk.injEq] at hx
        refine ⟨v, ⟨hv, wf_int hw⟩, fun y hy => ?_⟩
        rw [hx.1] at hy
        simp only [undat, if_true] at hy
        exact Option.some.inj hy
      | _ => cases h
    · rename_i hk
      cases τ with
      | bool =>
        obtain ⟨v, hv, hx⟩ := DataW.trod_bool hk ht
        simp only [Prod.mk.injEq] at hx
        refine ⟨v, hv, fun y hy => ?_⟩
        rw [hx.1] at hy
        simp only [undat] at hy
        exact Option.some.inj hy
      | _ => cases h
    · rename_i e hk
      cases τ with
      | slice σ =>
        simp only [Bool.and_eq_true, beq_iff_eq, decide_eq_true_eq] at h
        obtain ⟨⟨hc, hpos⟩, hf⟩ := h
        rcases DataW.trod_slice hk ht with ⟨hcs, hx⟩ | ⟨a, len, cap, elems, rest, m', rfl, hcs, hx, hb, hlc, hcap, hlen, hel, _⟩
        · exact ⟨[], ⟨none, 0, hcs, Nat.le_refl _, by decide, fun h => absurd rfl h⟩, fun y hy => by simp [undat] at hy⟩
        · have each : ∀ i, i < len → ∃ x : Den σ, ∃ ds, W.cells? 0 (a.add (i * P.cellsOf e)) (P.cellsOf e) = some ds ∧ DRep W (fun q => q < W.heap.size) σ x ds := fun i hi => by
            have := hel i hi
            rw [List.getElem?_eq_getElem (by omega), Option.bind_eq_some_iff] at this
            obtain ⟨ds, h1, h2⟩ := this
            obtain ⟨x, hx, _⟩ := fit_ok n m' e σ ds (elems[i]'(by omega)).1 (elems[i]'(by omega)).2 hf h2
            exact ⟨x, ds, h1, hx⟩
          obtain ⟨xs, hxl, hxs⟩ := choose_list len each
          refine ⟨xs, ⟨some a, cap, by rw [hxl]; exact hcs, by omega, by unfold lim; unfold maxLen at hcap; omega, fun hne => ?_⟩, fun y hy => by simp [undat] at hy⟩
          have h0 : 0 < xs.length := List.length_pos_iff.2 hne
          obtain ⟨ds0, hd0, _⟩ := hxs 0 xs[0] (List.getElem?_eq_getElem h0)
          obtain ⟨_, hl0, hc0⟩ := World.cells?_some hd0
          have hz : a.add (0 * P.cellsOf e) = a := by simp [Addr.add]
          have hz' : a.add 0 = a := by simp [Addr.add]
          rw [hz] at hc0
          have hc00 := hc0 0 (by omega)
          rw [hz', List.getElem?_eq_getElem (by omega)] at hc00
          unfold World.cell? at hc00
          split at hc00
          · rename_i c T fz hheap
            split at hc00
            · cases hc00
            · rename_i hspot
              have hs : a.spot = none := by simpa using hspot
              have hadd : ∀ q, a.add q = ⟨a.block, a.off + q, none⟩ := fun q => by
                unfold Addr.add
                split
                · subst_vars; cases a; simp at hs; simp [hs]
                · rfl
              have ha : a = ⟨a.block, a.off, none⟩ := by cases a; simp at hs; simp [hs]
              refine ⟨a.block, a.off, c, T, fz, by rw [← ha], ?_, hheap, fun i x hi => ?_⟩
              · exact (Array.getElem?_eq_some_iff.1 hheap).1
              · obtain ⟨ds, hd, hr⟩ := hxs i x hi
                refine ⟨ds, hr, fun j v hj => ?_⟩
                obtain ⟨_, hl, hcj⟩ := World.cells?_some hd
                have hjl : j < P.cellsOf e := by rw [← hl]; exact (List.getElem?_eq_some_iff.1 hj).1
                have := hcj j hjl
                rw [hadd, hj] at this
                have hadd2 : (⟨a.block, a.off + i * P.cellsOf e, none⟩ : Addr).add j = ⟨a.block, a.off + i * P.cellsOf e + j, none⟩ := by
                  unfold Addr.add
                  split
                  · subst_vars; rfl
                  · rfl
                rw [hadd2] at this
                unfold World.cell? at this
                simp only [hheap] at this
                rw [hc] at this
                exact this
          · cases hc00
      | _ => cases h
    · rename_i fs hk
      simp only [Bool.and_eq_true, beq_iff_eq] at h
      obtain ⟨hc, hf⟩ := h
      obtain ⟨xs, m', rfl, hx, hl, hxl, hel⟩ := DataW.trod_struct hk ht
      simp only [Prod.mk.injEq] at hx
      obtain ⟨x, h1, h2⟩ := fitF_ok (fun t τ cs d p => fit_ok n m' t τ cs d p) fs.toList 0 τ xs hf (by simpa using hxl) (by rw [hl, hc]; omega) fun i f hi => hel i f (by simpa using hi)
      refine ⟨x, by simpa using h1, fun y hy => h2 y ?_⟩
      rw [hx.1] at hy
      cases τ with
      | pair a b => exact hy
      | unit =>
        simp only [undat] at hy ⊢
        split at hy
        · rename_i e; simp only [DataW.agg.injEq] at e; rw [e]
        · cases hy
      | _ => simp [undat] at hy
    · cases h
end
end Vx
namespace Vx
open Go Go.RowKit Go.ChangeShapes Go.WideShapes
def isStruct (P : Program) (t : TypeId) : Bool := match P.underlying t with
  | some (.struct _) => true
  | _ => false
def fitS (P : Program) (n : Nat) : List TypeId → Sig → Bool
  | [], [] => true
  | t :: ts, (a, τ) :: r => fitB P n t τ && (a == isStruct P t) && fitS P n ts r
  | _, _ => false
section
variable {H : Type} {enc : TypeId × Value → H} {P : Program} {W : World}
theorem cells_one {n : Nat} {t : TypeId} {τ : Shape} {r : Reach} {b0 : Nat} {v : Value} (hf : fitB P n t τ = true) (hs : isStruct P t = false) (hv : Value.okWide P W r b0 t v) : v.cells.toList = [v] := by
  cases n with
  | zero => simp [fitB] at hf
  | succ n =>
    unfold fitB at hf
    split at hf
    · rename_i k hk; obtain ⟨_, rfl⟩ := okWide_int hk hv; rfl
    · rename_i hk; obtain ⟨_, rfl⟩ := okWide_bool hk hv; rfl
    · rename_i e hk; obtain ⟨_, _, _, rfl⟩ := okWide_slice hk hv; rfl
    · rename_i fs hk; simp [isStruct, hk] at hs
    · cases hf
theorem erep_plain {S : Nat → Prop} {a : Bool} {τ : Shape} {x : Den τ} {y : Value} (ho : ownE a τ = false) (h : PRep W S a τ x y) : ERep W S a τ x y [] := by
  cases τ with
  | slice e =>
    cases a with
    | true => cases ho
    | false => exact ⟨rfl, h⟩
  | _ => exact ⟨rfl, h⟩
theorem args_ok {n : Nat} {sp : Nat → Bool} {held : Bool} {b0 : Nat} : ∀ (ts : List TypeId) (I : Sig) (vs : List Value) (ds : List (DataW H)) (ps : List MemPlace), fitS P n ts I = true →
    (∀ (j : Nat) (t : TypeId) (v : Value), ts[j]? = some t → vs[j]? = some v → Value.okWide P W .any b0 t v) → DataW.TrodAll enc P W 0 sp held ts vs ds ps → ∃ x : DenS I, SRep W (fun q => q < W.heap.size) I x vs [] ∧ wfS I x ∧ ds.length = ts.length
  | [], [], vs, ds, ps, _, _, h => by
    cases vs <;> cases ds <;> simp [DataW.TrodAll] at h
    exact ⟨(), ⟨rfl, rfl⟩, trivial, rfl⟩
  | [], _ :: _, _, _, _, hf, _, _ => by simp [fitS] at hf
  | _ :: _, [], _, _, _, hf, _, _ => by simp [fitS] at hf
  | t :: ts, (a, τ) :: I, vs, ds, ps, hf, hv, h => by
    cases vs with
    | nil => simp [DataW.TrodAll] at h
    | cons v vs =>
      cases ds with
      | nil => simp [DataW.TrodAll] at h
      | cons d ds =>
        obtain ⟨p, q, ⟨m, hp⟩, hq, _⟩ := h
        simp only [fitS, Bool.and_eq_true, beq_iff_eq] at hf
        obtain ⟨⟨h1, h2⟩, h3⟩ := hf
        obtain ⟨x, hx, hw, hl⟩ := args_ok ts I vs ds q h3 (fun j t v ht hv' => hv (j + 1) t v (by simpa using ht) (by simpa using hv')) hq
        obtain ⟨y, hy, _⟩ := fit_ok n m t τ _ d p h1 hp
        have hok := hv 0 t v rfl rfl
        refine ⟨(y, x), ⟨v, vs, [], [], rfl, rfl, erep_plain ?_ ?_, hx⟩, ⟨hy.wfD, hw⟩, by simp [hl]⟩
        · cases τ with
          | slice σ =>
            show a = false
            rw [h2]
            cases n with
            | zero => simp [fitB] at h1
            | succ n =>
              unfold fitB at h1
              unfold isStruct
              split at h1 <;> rename_i hk <;> first | (rw [hk]; done) | (simp only [hk]; done) | (simp [fitF] at h1; done) | skip
          | _ => rfl
        cases a with
        | true =>
          have hs : isStruct P t = true := h2.symm
          unfold isStruct at hs
          split at hs
          · rename_i fs hk
            unfold Value.okWide at hok
            rw [hk] at hok
            obtain ⟨cs, rfl, _⟩ := hok
            exact ⟨cs.toList, by simp, hy⟩
          · cases hs
        | false =>
          have hs : isStruct P t = false := h2.symm
          rw [cells_one h1 hs hok] at hy
          exact hy
theorem trodAll_below (hl : laidOutB P = true) {W' : World} (hb : Below W.heap.size W W') : ∀ (ts : List TypeId) (vs : List Value) (ds : List (DataW H)) (ps : List MemPlace), (ts.all fun t => P.readableRec t && decide (t < P.types.size)) = true →
    DataW.TrodAll enc P W 0 (fun _ => true) true ts vs ds ps → (∀ x ∈ ps, x.block < W.heap.size) → DataW.TrodAll enc P W' 0 (fun b => decide (b < W.heap.size)) true ts vs ds ps
  | [], vs, ds, ps, _, h, _ => by
    cases vs <;> cases ds <;> simp [DataW.TrodAll] at h ⊢
    exact h
  | t :: ts, vs, ds, ps, hr, h, hlt => by
    cases vs with
    | nil => simp [DataW.TrodAll] at h
    | cons v vs =>
      cases ds with
      | nil => simp [DataW.TrodAll] at h
      | cons d ds =>
        obtain ⟨p, q, hp, hq, rfl⟩ := h
        simp only [List.all_cons, Bool.and_eq_true, decide_eq_true_eq] at hr
        exact ⟨p, q, Below.trod hl hr.1.1 hr.1.2 hp hb (fun x hx => hlt x (List.mem_append.2 (.inl hx))),
          trodAll_below hl hb ts vs ds q hr.2 hq (fun x hx => hlt x (List.mem_append.2 (.inr hx))), rfl⟩
/-- a table that is laid -/
theorem glob_of {n : String} {g : Nat} {t e : TypeId} {m k : Nat} {τ : Shape} {ds : List (DataW Unit)} {xs : List (Den τ)} {r : List (String × DataW Unit)} {ps : List MemPlace}
    (hL : DataW.LaidVars P W ((n, .agg ds) :: r) ps) (hg : P.globalNamed n = some g) (ht : (P.globals[g]?).map (·.type) = some t) (hu : P.underlying t = some (.array m e)) (hc : P.cellsOf e = τ.width) (hf : fitB P k e τ = true)
    (hx : ds.map (undat τ).1 = xs.map some) :
    (g < W.heap.size ∧ ∃ vs T fz, W.heap[g]? = some (.cells vs T fz) ∧ Rows W (fun q => q < W.heap.size) τ vs 0 xs) ∧ ∃ ps', DataW.LaidVars P W r ps' := by
  obtain ⟨g', t', cs, fuel, p, q, h1, h2, h3, h4, h5, _⟩ := hL
  rw [hg] at h1; cases h1
  rw [ht] at h2; cases h2
  refine ⟨?_, q, h5⟩
  unfold World.var? at h3
  rw [hg] at h3
  simp only [Option.bind_some] at h3
  split at h3
  · rename_i c T fz hh
    cases h3
    refine ⟨(Array.getElem?_eq_some_iff.1 hh).1, cs, T, fz, hh, ?_⟩
    obtain ⟨ys, m', rfl, hy, hl, hyl, hel⟩ := DataW.trod_array hu h4
    simp only [Prod.mk.injEq, DataW.agg.injEq] at hy
    intro i x hi
    have hxl : xs.length = m := by
      have := congrArg List.length hx
      simp [hy.1, hyl] at this
      omega
    have him : i < m := by rw [← hxl]; exact (List.getElem?_eq_some_iff.1 hi).1
    have he := hel i him
    have hyi : ys[i]? = some (ys[i]'(by omega)) := List.getElem?_eq_getElem (by omega)
    rw [hyi, hc] at he
    obtain ⟨x', h6, h7⟩ := fit_ok k m' e τ _ _ _ hf he
    have hd : (undat τ).1 (ys[i]'(by omega)).1 = some x := by
      have := congrArg (·[i]?) hx
      simp only [List.getElem?_map, hy.1, hyi, hi, Option.map_some] at this
      exact Option.some.inj this
    have := h7 x hd
    subst this
    refine ⟨_, h6, fun j v hj => ?_⟩
    rw [List.getElem?_take] at hj
    split at hj
    · rw [List.getElem?_drop] at hj
      simpa using hj
    · cases hj
  · cases h3
theorem returns_true {G : List (Nat × Sigma fun τ => List (Den τ))} {f : FuncId} {I : Sig} {T : DenS I → Option (DenS [(false, .bool)])} {d : DenS [(false, .bool)]} (hS : Sound P G f (sumOf I [(false, .bool)] T d)) {x : DenS I} (hT : T x = some (true, ())) (hcal : ∃ fn, P.funcs[f]? = some fn ∧ fn.body.isNone = false ∧ (fn.name == "runtime.NumGoroutine") = false) {W : World} {args : Array Value}
    (hG : GlobsOk G W fun q => q < W.heap.size) (ha : SRep W (fun q => q < W.heap.size) I x args.toList []) : Calls P f args W fun e W' => e = .returned (.bool true) ∧ Below W.heap.size W W' := by
  have := hS.calls x (by show (T x).isSome = true; rw [hT]; rfl) W (fun q => q < W.heap.size) args.toList [] (fun q h => h) hG ha List.nodup_nil (fun r h => by simp at h)
  rw [Array.toArray_toList] at this
  have this := this.resolve_right (fun ⟨v, hv, _⟩ => by rw [run_callFunc hcal] at hv; cases hv)
  refine this.2.mono fun e W' ⟨zs, rs', he, hb, _, _, hz⟩ => ⟨?_, ⟨hb.os, hb.tape, hb.output, hb.size, fun k hk => hb.block k hk (fun h => by simp at h)⟩⟩
  obtain ⟨y, ys, r1, r2, rfl, _, ⟨_, h1⟩, rfl, _⟩ := hz
  have h2 : [y] = [Value.bool ((T x).getD d).1] := h1
  rw [hT] at h2
  cases h2
  exact he
/-- what a law's row asks -/
theorem law_post {G : List (Nat × Sigma fun τ => List (Den τ))} {f : FuncId} {fn : Func} {I : Sig} {T : DenS I → Option (DenS [(false, .bool)])} {d : DenS [(false, .bool)]} {s : ChangeSpec} {n : Nat} {tb : TypeId}
    (hS : Sound P G f (sumOf I [(false, .bool)] T d)) (hT : ∀ x, wfS I x → T x = some (true, ())) (hcal : ∃ fn, P.funcs[f]? = some fn ∧ fn.body.isNone = false ∧ (fn.name == "runtime.NumGoroutine") = false) (hlay : laidOutB P = true) (hfit : fitS P n fn.params.toList I = true)
    (hread : (fn.params.toList.all fun t => P.readableRec t && decide (t < P.types.size)) = true) (hres : fn.resultTypes = #[tb]) (hbool : P.underlying tb = some .bool) (hvars : s.vars = [])
    (hspec : ∀ ds : List (DataW H), ds.length = fn.params.toList.length → s.fn H ds = { results := [.lit (.bool true)], args := ds })
    {W : World} {base : Nat} {args : Array Value} {ds gs : List (DataW H)} {before : List MemPlace}
    (hval : ∀ (j : Nat) (t : TypeId) (v : Value), fn.params[j]? = some t → args[j]? = some v → Value.okWide P W .any base t v)
    (hW : DataW.Whole enc P fn.params.toList s.vars false W args.toList ds gs before) (hG : GlobsOk G W fun q => q < W.heap.size) :
    Calls P f args W fun e W' => ∃ v, e = .returned v ∧ ChangeSpec.post enc P fn s false true false false W args v W' := by
  have hW' := hW
  obtain ⟨p, q, hA, hV, rfl, _, _⟩ := hW
  rw [hvars] at hV
  obtain ⟨rfl, rfl⟩ := trodVars_none hV
  obtain ⟨x, hx, hw, hlen⟩ := args_ok (b0 := base) fn.params.toList I args.toList ds p hfit (fun j t v ht hv => hval j t v (by simpa using ht) (by simpa using hv)) hA
  refine (returns_true hS (hT x hw) hcal hG hx).mono fun e W' ⟨he, hb⟩ => ⟨.bool true, he, ds, [], p ++ [], [], p, [], hW', ?_, ?_, ?_, hb.frame _, fun h => by cases h⟩
  · rw [List.append_nil, hspec ds hlen, hres]
    exact trodAll_mk1 (shut_bool hbool true)
  · rw [List.append_nil, hspec ds hlen]
    exact trodAll_below hlay hb _ _ _ _ hread hA fun y hy => by simpa using hW'.lt y (by simpa using hy)
  · rw [List.append_nil, hspec ds hlen, hvars]
    rfl
end
theorem globs_nil {W : World} {S : Nat → Prop} : GlobsOk [] W S := fun _ _ _ h => by simp [findGlob] at h
theorem globs_cons {W : World} {S : Nat → Prop} {g : Nat} {τ : Shape} {xs : List (Den τ)} {G : List (Nat × Sigma fun τ => List (Den τ))} (h : S g ∧ ∃ vs T fz, W.heap[g]? = some (.cells vs T fz) ∧ Rows W S τ vs 0 xs) (r : GlobsOk G W S) :
    GlobsOk ((g, ⟨τ, xs⟩) :: G) W S := fun g' τ' xs' hf => by
  simp only [findGlob] at hf
  cases hb : Nat.beq g g' with
  | true =>
    have := Nat.eq_of_beq_eq_true hb
    subst this
    rw [hb] at hf
    simp only [cond_true, Option.some.injEq] at hf
    cases hf
    exact h
  | false =>
    rw [hb] at hf
    exact r g' τ' xs' hf
end Vx
