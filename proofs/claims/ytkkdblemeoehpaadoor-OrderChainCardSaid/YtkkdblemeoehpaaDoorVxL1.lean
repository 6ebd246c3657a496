/- The law OrderCompares, in plain Lean. -/
import Derived.Test.YtkkdblemeoehpaaDoorVxR1
import Derived.IntWalk
namespace Vx
open Go

theorem t16_true : T16 () = some (true, ()) := by kernel_rfl

theorem shrI_u64 {a : Int} (n : Nat) (hn : n ≤ 64) : shrI .u64 a (n : Int) = a / 2 ^ n := by
  unfold shrI
  rw [Int.fdiv_eq_ediv_of_nonneg]
  · congr 2
    simp [IntKind.bits]
    omega
  · exact Int.pow_nonneg (by omega)

theorem ofInt_u64 {m : Nat} (h : m < 2 ^ 64) : (BitVec.ofInt 64 (m : Int)).toNat = m := by
  rw [BitVec.toNat_ofInt]
  omega

theorem andI_mask {m n : Nat} (h : m < 2 ^ 64) (hn : n ≤ 64) : andI .u64 (m : Int) ((2 ^ n - 1 : Nat) : Int) = ((m % 2 ^ n : Nat) : Int) := by
  have h2 : 2 ^ n ≤ 2 ^ 64 := Nat.pow_le_pow_right (by omega) hn
  have h3 : 0 < 2 ^ n := Nat.two_pow_pos n
  have hlt : m % 2 ^ n < 2 ^ n := Nat.mod_lt _ h3
  have key : (BitVec.ofInt 64 (m : Int) &&& BitVec.ofInt 64 ((2 ^ n - 1 : Nat) : Int)).toNat = m % 2 ^ n := by
    rw [BitVec.toNat_and, ofInt_u64 h, ofInt_u64 (by omega), Nat.and_two_pow_sub_one_eq_mod]
  show IntKind.u64.wrap (((BitVec.ofInt 64 (m : Int) &&& BitVec.ofInt 64 ((2 ^ n - 1 : Nat) : Int)).toNat : Nat) : Int) = _
  rw [key]
  exact IntWalk.u64_in _ (by omega)

theorem shlI_one {n : Nat} (hn : n ≤ 63) : shlI .u64 1 (n : Int) = ((2 ^ n : Nat) : Int) := by
  have h2 : 2 ^ n ≤ 2 ^ 63 := Nat.pow_le_pow_right (by omega) hn
  have : (min (n : Int).toNat IntKind.u64.bits) = n := by simp [IntKind.bits]; omega
  unfold shlI
  rw [this, Int.one_mul]
  have e : (2 : Int) ^ n = ((2 ^ n : Nat) : Int) := by simp
  rw [e]
  refine IntWalk.u64_in _ ⟨Int.natCast_nonneg _, ?_⟩
  have : ((2 ^ n : Nat) : Int) ≤ ((2 ^ 63 : Nat) : Int) := Int.ofNat_le.2 h2
  exact Int.le_trans this (by decide)

theorem andNotI_bit {m n : Nat} (hn : n ≤ 63) (h : m < 2 ^ (n + 1)) : andNotI .u64 (m : Int) ((2 ^ n : Nat) : Int) = ((m % 2 ^ n : Nat) : Int) := by
  have h1 : 2 ^ (n + 1) ≤ 2 ^ 64 := Nat.pow_le_pow_right (by omega) (by omega)
  have h2 : 2 ^ n < 2 ^ 64 := Nat.pow_lt_pow_right (by omega) (by omega)
  have hlt : m % 2 ^ n < 2 ^ n := Nat.mod_lt _ (Nat.two_pow_pos n)
  have key : (BitVec.ofInt 64 (m : Int) &&& ~~~(BitVec.ofInt 64 ((2 ^ n : Nat) : Int))).toNat = m % 2 ^ n := by
    apply Nat.eq_of_testBit_eq
    intro i
    rw [BitVec.toNat_and, Nat.testBit_and, ofInt_u64 (by omega), Nat.testBit_mod_two_pow]
    have e : (~~~(BitVec.ofInt 64 ((2 ^ n : Nat) : Int))).toNat.testBit i = (decide (i < 64) && !decide (n = i)) := by
      rw [← BitVec.getLsbD, BitVec.getLsbD_not, BitVec.getLsbD, ofInt_u64 h2, Nat.testBit_two_pow]
    rw [e]
    rcases Nat.lt_trichotomy i n with hi | hi | hi
    · have : i < 64 := by omega
      have hne : ¬ n = i := by omega
      simp [this, hne, hi]
    · subst hi; simp
    · have hz : m.testBit i = false := Nat.testBit_lt_two_pow (Nat.lt_of_lt_of_le h (Nat.pow_le_pow_right (by omega) (by omega)))
      simp [hz]
  show IntKind.u64.wrap (((BitVec.ofInt 64 (m : Int) &&& ~~~(BitVec.ofInt 64 ((2 ^ n : Nat) : Int))).toNat : Nat) : Int) = _
  rw [key]
  exact IntWalk.u64_in _ (by omega)

end Vx
