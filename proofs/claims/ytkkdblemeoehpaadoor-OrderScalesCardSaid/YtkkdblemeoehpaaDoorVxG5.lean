/- Part 5 of the proof. What is proved: symbolic execution of the functions, proved sound; what each function of the program computes, and that every run ends with it; what these functions compute, in plain numbers. Conditions: each theorem bears its own. -/
import Derived.Test.YtkkdblemeoehpaaDoorVxG4
set_option linter.all false
set_option exponentiation.threshold 1000000
namespace VL
open Go Vx
/-- does the last place go up? rest: 0 nothing is lost, 1 less than a half, 2 a half, 3 more -/
def furM (m : Int) (neg odd : Bool) (rest : Nat) : Bool :=
  if m = 4 then neg else if m = 3 then !neg else if m = 0 then (if rest = 2 then odd else decide (2 ≤ rest)) else if m = 1 then decide (2 ≤ rest) else if m = 5 then !odd else false
theorem ibeq_f (a b : Int) (h : a ≠ b) : (a == b) = false := by simp [h]
theorem T177_eq (m : Int) (neg odd : Bool) (rest : Nat) : T177 (m, neg, odd, (rest : Int), ()) = some (furM m neg odd rest, ()) := by
  show t177 m neg odd (rest : Int) = _
  have e2 : decide ((rest : Int) ≥ 2) = decide (2 ≤ rest) := by rw [Bool.eq_iff_iff, decide_eq_true_eq, decide_eq_true_eq]; omega
  have e3 : ((rest : Int) == 2) = decide (rest = 2) := by rw [Bool.eq_iff_iff, decide_eq_true_eq, beq_iff_eq]; omega
  unfold t177 furM
  rw [e2, e3]
  by_cases h4 : m = 4
  · subst h4; cases neg <;> rfl
  rw [ibeq_f m 4 h4, cond_false, if_neg h4]
  by_cases h3 : m = 3
  · subst h3; rfl
  rw [ibeq_f m 3 h3, cond_false, if_neg h3]
  by_cases h0 : m = 0
  · subst h0
    by_cases hr : rest = 2
    · subst hr; rfl
    · rw [decide_eq_false hr, if_pos rfl, if_neg hr]; rfl
  rw [ibeq_f m 0 h0, cond_false, if_neg h0]
  by_cases h1 : m = 1
  · subst h1; rfl
  rw [ibeq_f m 1 h1, cond_false, if_neg h1]
  by_cases h5 : m = 5
  · subst h5; rfl
  rw [ibeq_f m 5 h5, cond_false, if_neg h5]
/-- n times 2^e in units of 2^q: the whole ones -/
def quoE (n : Nat) (e q : Int) : Nat := if q ≤ e then n * 2 ^ (e - q).toNat else n / 2 ^ (q - e).toNat
def clsR (r s : Nat) : Nat := if r = 0 then 0 else if r < 2 ^ (s - 1) then 1 else if r = 2 ^ (s - 1) then 2 else 3
/-- and what is lost -/
def rstE (n : Nat) (e q : Int) : Nat := if q ≤ e then 0 else clsR (n % 2 ^ (q - e).toNat) (q - e).toNat
/-- four times the whole, with what is lost -/
def j4 (n : Nat) (e q : Int) : Nat := if 2 ≤ q - e then jamN n (q - e - 2).toNat else n * 2 ^ (2 - (q - e)).toNat
theorem j4_eq (n : Nat) (e q : Int) : j4 n e q / 4 = quoE n e q ∧ j4 n e q % 4 = rstE n e q := by
  unfold j4 quoE rstE
  by_cases h2 : 2 ≤ q - e
  · rw [if_pos h2, if_neg (by omega), if_neg (by omega)]
    have es : (q - e).toNat = (q - e - 2).toNat + 2 := by omega
    rw [es]
    generalize (q - e - 2).toNat = s
    have hp := Nat.two_pow_pos s
    have e1 : 2 ^ (s + 2) = 2 ^ s * 4 := by rw [Nat.pow_add]
    have e2 : 2 ^ (s + 2 - 1) = 2 ^ s * 2 := by rw [show s + 2 - 1 = s + 1 by omega, Nat.pow_succ]
    unfold jamN clsR
    rw [e2, e1, ← Nat.div_div_eq_div_mul, Nat.mod_mul]
    have hr := Nat.mod_lt n hp
    generalize n % 2 ^ s = r at *
    generalize n / 2 ^ s = u at *
    have h4 : u % 4 = 0 ∨ u % 4 = 1 ∨ u % 4 = 2 ∨ u % 4 = 3 := by omega
    constructor
    · split <;> omega
    · rcases h4 with h | h | h | h <;> rw [h] <;> by_cases hz : r = 0
      · rw [if_pos hz, if_pos (by omega)]; exact h
      · rw [if_neg hz, if_neg (by omega), if_pos (by omega)]; omega
      · rw [if_pos hz, if_neg (by omega), if_pos (by omega)]; exact h
      · rw [if_neg hz, if_neg (by omega), if_pos (by omega)]; omega
      · rw [if_pos hz, if_neg (by omega), if_neg (by omega), if_pos (by omega)]; exact h
      · rw [if_neg hz, if_neg (by omega), if_neg (by omega), if_neg (by omega)]; omega
      · rw [if_pos hz, if_neg (by omega), if_neg (by omega), if_neg (by omega)]; exact h
      · rw [if_neg hz, if_neg (by omega), if_neg (by omega), if_neg (by omega)]; omega
  · rw [if_neg h2]
    by_cases h1 : q ≤ e
    · rw [if_pos h1, if_pos h1, show (2 - (q - e)).toNat = (e - q).toNat + 2 by omega, Nat.pow_add, ← Nat.mul_assoc]
      generalize n * 2 ^ (e - q).toNat = x
      omega
    · rw [if_neg h1, if_neg h1, show (2 - (q - e)).toNat = 1 by omega, show (q - e).toNat = 1 by omega]
      unfold clsR
      rcases Nat.mod_two_eq_zero_or_one n with h | h
      · rw [show n % 2 ^ 1 = 0 from h, if_pos rfl]; omega
      · rw [show n % 2 ^ 1 = 1 from h, if_neg (by omega), if_neg (by decide), if_pos (by decide)]; omega
def cutR (n : Nat) (e q : Int) (more : Bool) : Nat := if more then rstE n e q / 2 * 2 + 1 else rstE n e q
def cutN (m : Int) (neg : Bool) (n : Nat) (e q : Int) (more : Bool) : Nat :=
  if cutR n e q more ≠ 0 ∧ furM m neg (decide (quoE n e q % 2 = 1)) (cutR n e q more) = true then quoE n e q + 1 else quoE n e q
theorem Dw_zero : Dw 0 = [] := by unfold Dw; rw [dg_zero]; rfl
theorem Dw_len {n : Nat} (h : n ≠ 0) : 0 < (Dw n).length := by
  unfold Dw; rw [Wd_len, dg_pos (by decide) (by omega)]; simp
theorem Dw_len_gt {n : Nat} (h : n ≠ 0) : decide ((((Dw n).length : Nat) : Int) > 0) = true := decide_eq_true (by have := Dw_len h; omega)
theorem Dw_len_pos {n : Nat} (h : n ≠ 0) : decide ((0 : Int) < (((Dw n).length : Nat) : Int)) = true := decide_eq_true (by have := Dw_len h; omega)
theorem Dw_get (n : Nat) : (Dw n).getD 0 0 = ((n % 2 ^ 64 : Nat) : Int) := by
  unfold Dw; rw [Wd_getD]
  rcases Nat.eq_zero_or_pos n with rfl | h
  · rw [dg_zero]; rfl
  · rw [dg_pos (by decide) h]; rfl
theorem Dw_one : Dw 1 = (1 : Int) :: [] := by
  unfold Dw; rw [dg_pos (by decide) (by decide), dg_zero]; rfl
theorem Dw_guard (n : Nat) : (decide ((0 : Int) < (((Dw n).length : Nat) : Int)) || !decide ((((Dw n).length : Nat) : Int) > 0)) = true := by
  by_cases h : 0 < (Dw n).length
  · rw [decide_eq_true (by omega)]; rfl
  · rw [decide_eq_false (p := (((Dw n).length : Nat) : Int) > 0) (by omega)]; simp
theorem and3 (n : Nat) : andI .u64 ((n % 2 ^ 64 : Nat) : Int) 3 = ((n % 4 : Nat) : Int) := by
  have := andI_mask (m := n % 2 ^ 64) (n := 2) (Nat.mod_lt _ (by decide)) (by decide)
  rw [show n % 2 ^ 64 % 2 ^ 2 = n % 4 by omega] at this
  exact this
theorem and1 (n : Nat) : andI .u64 ((n % 2 ^ 64 : Nat) : Int) 1 = ((n % 2 : Nat) : Int) := by
  have := andI_mask (m := n % 2 ^ 64) (n := 1) (Nat.mod_lt _ (by decide)) (by decide)
  rw [show n % 2 ^ 64 % 2 ^ 1 = n % 2 by omega] at this
  exact this
theorem or1 (n : Nat) (h : n < 2 ^ 64) : orI .u64 (n : Int) 1 = ((n / 2 * 2 + 1 : Nat) : Int) := by
  have := orN2 (a := n) (b := 1) h (by decide)
  rw [or_one] at this
  exact this
theorem or01 : orI .u64 0 1 = 1 := by decide
theorem odd_guard (u : Nat) : (decide ((((Dw u).length : Nat) : Int) > 0) && (andI .u64 ((Dw u).getD 0 0) 1 == 1)) = decide (u % 2 = 1) := by
  rw [Dw_get, and1]
  rcases Nat.eq_zero_or_pos u with rfl | h
  · rw [Dw_zero]; rfl
  · rw [Dw_len_gt (by omega), Bool.true_and, Bool.eq_iff_iff, decide_eq_true_eq, beq_iff_eq]; omega
theorem Dw_ws {n : Nat} (h : n < (2 ^ 64) ^ 5000) : Ws (dg (2 ^ 64) n) := by
  have := dg_len_le (B := 2 ^ 64) (by decide) 5000 n h
  exact dg_ws n (by omega)
theorem nv_Dw (n : Nat) : nv (2 ^ 64) (dg (2 ^ 64) n) = n := nv_dg (by decide) n
/-- nat.Shr by 2 -/
theorem shr2 {j : Nat} (hj : Ws (dg (2 ^ 64) j)) : T141 (Dw j, (2 : Int), ()) = some (Dw (j / 4), 0, ()) := by
  have := T141_eq (dg (2 ^ 64) j) hj 2 (by decide)
  rw [nv_Dw] at this
  exact this
/-- and one more -/
theorem add1 {u : Nat} (hu : Ws (dg (2 ^ 64) u)) (hl : (dg (2 ^ 64) u).length < 1000000) : T143 (Dw u, ((1 : Int) :: []), ()) = some (Dw (u + 1), ()) := by
  have := T143_eq (dg (2 ^ 64) u) [1] hu ⟨by simp, by simp⟩ (by rw [dg_trim (by decide)]; exact hl) (by simp [trimL])
  rw [nv_Dw, show nv (2 ^ 64) [1] = 1 by rfl] at this
  exact this
theorem rest_lt (n : Nat) (e q : Int) : rstE n e q < 4 := by rw [← (j4_eq n e q).2]; exact Nat.mod_lt _ (by decide)
end VL
namespace VL
open Go Vx
theorem gt00 : decide ((0 : Int) > 0) = false := rfl
theorem T150_eq (m : Int) (neg : Bool) (n : Nat) (e q : Int) (more : Bool) (hn : n < (2 ^ 64) ^ 2000) (hq : q - e ≤ 10000000) (he : -1000000000 ≤ e ∧ e ≤ 1000000000) (hqb : -1000000000 ≤ q ∧ q ≤ 1000000000)
    (hs : q - e < 2 → 2 - (q - e) ≤ 65536 ∧ n * 2 ^ (2 - (q - e)).toNat < (2 ^ 64) ^ 1024) :
    T150 ((neg, Dw n, e, more, ()), m, q, ()) = some (Dw (cutN m neg n e q more), decide (cutR n e q more ≠ 0), ()) := by
  show t150 _ _ _ _ _ _ _ _ _ _ (neg, Dw n, e, more, ()) m q = _
  unfold t150
  have hnw : Ws (dg (2 ^ 64) n) := Dw_ws (Nat.lt_trans hn (Nat.pow_lt_pow_right (by decide) (by decide)))
  have e0 : IntKind.wrap .i64 (q - e) = q - e := wrapI (by omega)
  have hj4 := j4_eq n e q
  dsimp only
  rw [e0]
  by_cases h2 : 2 ≤ q - e
  · rw [show decide (q - e ≥ 2) = true from decide_eq_true h2, cond_true]
    obtain ⟨s, hs⟩ := Int.eq_ofNat_of_zero_le (show 0 ≤ q - e - 2 by omega)
    have e1 : IntKind.wrap .i64 (q - e - 2) = (s : Int) := by rw [wrapI (by omega)]; exact hs
    have hj : j4 n e q = jamN n s := by unfold j4; rw [if_pos h2]; congr 1; omega
    rw [hj] at hj4
    have hjn : jamN n s ≤ n + 1 := by
      unfold jamN
      have := Nat.div_le_self n (2 ^ s)
      split <;> omega
    have p0 := T175_eq (dg (2 ^ 64) n) hnw s (by omega)
    rw [nv_Dw] at p0
    have hjl : jamN n s < (2 ^ 64) ^ 5000 := by
      have h1 : (2 ^ 64) ^ 2000 < (2 ^ 64) ^ 5000 := Nat.pow_lt_pow_right (by decide) (by decide)
      generalize (2 ^ 64) ^ 2000 = A at *
      generalize (2 ^ 64) ^ 5000 = B at *
      omega
    clear hj
    generalize jamN n s = j at *
    have hj : Ws (dg (2 ^ 64) j) := Dw_ws hjl
    rw [e1]
    have p0 : T175 (Dw n, (s : Int), ()) = some (Dw j, 0, ()) := p0

    have p1 := shr2 hj
    have hu : Ws (dg (2 ^ 64) (j / 4)) := Dw_ws (Nat.lt_of_le_of_lt (Nat.div_le_self _ _) hjl)
    have hul := dg_len_le (B := 2 ^ 64) (by decide) 5000 (j / 4) (Nat.lt_of_le_of_lt (Nat.div_le_self _ _) hjl)
    have p3 := add1 hu (by omega)
    have h4 : j % 4 < 4 := Nat.mod_lt _ (by decide)
    unfold cutN cutR
    rw [← hj4.1, ← hj4.2]
    rcases Nat.eq_zero_or_pos j with hj0 | hj0
    · subst hj0
      have pz : T141 ([], (2 : Int), ()) = some (Dw (0 / 4), 0, ()) := by rw [← Dw_zero]; exact p1
      cases more with
      | true =>
        have p2 : T177 (m, neg, decide (0 / 4 % 2 = 1), (1 : Int), ()) = some (furM m neg (decide (0 / 4 % 2 = 1)) 1, ()) := T177_eq m neg _ 1
        simp only [pre175 p0, fun175 p0, cond_true, Dw_zero, List.length_nil, igt0_f, Int.natCast_zero, cond_false, Int.toNat_zero, gt00, or01, pre141 pz, fun141 pz, Dw_guard, odd_guard, pre177 p2, fun177 p2, Bool.true_or, Bool.or_true, Bool.true_and]
        cases hf : furM m neg (decide (0 / 4 % 2 = 1)) 1 with
        | true => simp only [cond_true, pre143 p3, fun143 p3]; have hf : furM m neg false 1 = true := hf; simp [hf]
        | false => simp only [cond_false]; have hf : furM m neg false 1 = false := hf; simp [hf]
      | false =>
        simp only [pre175 p0, fun175 p0, cond_true, Dw_zero, List.length_nil, Int.natCast_zero, cond_false, Int.toNat_zero, gt00, pre141 pz, fun141 pz, Dw_guard, Bool.or_true]
        simp
    · have hjn : j ≠ 0 := by omega
      cases more with
      | true =>
        have p2 := T177_eq m neg (decide (j / 4 % 2 = 1)) (j % 4 / 2 * 2 + 1)
        have hr : j % 4 / 2 * 2 + 1 ≠ 0 := by omega
        simp only [pre175 p0, fun175 p0, cond_true, Dw_len_gt hjn, Dw_len_pos hjn, Int.toNat_zero, Dw_get j, and3, or1 (j % 4) (by omega), pre141 p1, fun141 p1, Dw_guard, odd_guard, pre177 p2, fun177 p2, Bool.true_or, Bool.or_true, bne0_t _ hr, Bool.true_and]
        cases hf : furM m neg (decide (j / 4 % 2 = 1)) (j % 4 / 2 * 2 + 1) with
        | true => simp only [cond_true, pre143 p3, fun143 p3]; simp [hf]
        | false => simp only [cond_false]; simp [hf]
      | false =>
        have p2 := T177_eq m neg (decide (j / 4 % 2 = 1)) (j % 4)
        simp only [pre175 p0, fun175 p0, cond_true, cond_false, Dw_len_gt hjn, Dw_len_pos hjn, Int.toNat_zero, Dw_get j, and3, pre141 p1, fun141 p1, Dw_guard, odd_guard, pre177 p2, fun177 p2, Bool.true_or, Bool.or_true]
        rcases Nat.eq_zero_or_pos (j % 4) with hz | hz
        · rw [bne0_f _ hz, Bool.false_and, cond_false]
          simp [hz]
        · have hr : j % 4 ≠ 0 := by omega
          rw [bne0_t _ hr, Bool.true_and]
          cases hf : furM m neg (decide (j / 4 % 2 = 1)) (j % 4) with
          | true => simp only [cond_true, pre143 p3, fun143 p3]; simp [hf, hr]
          | false => simp only [cond_false]; simp [hf, hr]
  · rw [show decide (q - e ≥ 2) = false from decide_eq_false h2, cond_false]
    obtain ⟨s, hse⟩ := Int.eq_ofNat_of_zero_le (show 0 ≤ 2 - (q - e) by omega)
    have e1 : IntKind.wrap .i64 (2 - (q - e)) = (s : Int) := by rw [wrapI (by omega)]; exact hse
    have hj : j4 n e q = n * 2 ^ s := by unfold j4; rw [if_neg h2]; congr 2; omega
    rw [hj] at hj4
    obtain ⟨hs1, hs2⟩ := hs (by omega)
    rw [show (2 - (q - e)).toNat = s by omega] at hs2
    have p0 := T176_eq (dg (2 ^ 64) n) hnw s (by omega) (by rw [nv_Dw]; exact hs2)
    rw [nv_Dw] at p0
    have hjl : n * 2 ^ s < (2 ^ 64) ^ 5000 := Nat.lt_trans hs2 (Nat.pow_lt_pow_right (by decide) (by decide))
    clear hj
    generalize n * 2 ^ s = j at *
    have hj : Ws (dg (2 ^ 64) j) := Dw_ws hjl
    rw [e1]
    have p0 : T176 (Dw n, (s : Int), ()) = some (Dw j, 0, ()) := p0

    have p1 := shr2 hj
    have hu : Ws (dg (2 ^ 64) (j / 4)) := Dw_ws (Nat.lt_of_le_of_lt (Nat.div_le_self _ _) hjl)
    have hul := dg_len_le (B := 2 ^ 64) (by decide) 5000 (j / 4) (Nat.lt_of_le_of_lt (Nat.div_le_self _ _) hjl)
    have p3 := add1 hu (by omega)
    have h4 : j % 4 < 4 := Nat.mod_lt _ (by decide)
    unfold cutN cutR
    rw [← hj4.1, ← hj4.2]
    rcases Nat.eq_zero_or_pos j with hj0 | hj0
    · subst hj0
      have pz : T141 ([], (2 : Int), ()) = some (Dw (0 / 4), 0, ()) := by rw [← Dw_zero]; exact p1
      cases more with
      | true =>
        have p2 : T177 (m, neg, decide (0 / 4 % 2 = 1), (1 : Int), ()) = some (furM m neg (decide (0 / 4 % 2 = 1)) 1, ()) := T177_eq m neg _ 1
        simp only [pre176 p0, fun176 p0, cond_true, Dw_zero, List.length_nil, igt0_f, Int.natCast_zero, cond_false, Int.toNat_zero, gt00, or01, pre141 pz, fun141 pz, Dw_guard, odd_guard, pre177 p2, fun177 p2, Bool.true_or, Bool.or_true, Bool.true_and]
        cases hf : furM m neg (decide (0 / 4 % 2 = 1)) 1 with
        | true => simp only [cond_true, pre143 p3, fun143 p3]; have hf : furM m neg false 1 = true := hf; simp [hf]
        | false => simp only [cond_false]; have hf : furM m neg false 1 = false := hf; simp [hf]
      | false =>
        simp only [pre176 p0, fun176 p0, cond_true, Dw_zero, List.length_nil, Int.natCast_zero, cond_false, Int.toNat_zero, gt00, pre141 pz, fun141 pz, Dw_guard, Bool.or_true]
        simp
    · have hjn : j ≠ 0 := by omega
      cases more with
      | true =>
        have p2 := T177_eq m neg (decide (j / 4 % 2 = 1)) (j % 4 / 2 * 2 + 1)
        have hr : j % 4 / 2 * 2 + 1 ≠ 0 := by omega
        simp only [pre176 p0, fun176 p0, cond_true, Dw_len_gt hjn, Dw_len_pos hjn, Int.toNat_zero, Dw_get j, and3, or1 (j % 4) (by omega), pre141 p1, fun141 p1, Dw_guard, odd_guard, pre177 p2, fun177 p2, Bool.true_or, Bool.or_true, bne0_t _ hr, Bool.true_and]
        cases hf : furM m neg (decide (j / 4 % 2 = 1)) (j % 4 / 2 * 2 + 1) with
        | true => simp only [cond_true, pre143 p3, fun143 p3]; simp [hf]
        | false => simp only [cond_false]; simp [hf]
      | false =>
        have p2 := T177_eq m neg (decide (j / 4 % 2 = 1)) (j % 4)
        simp only [pre176 p0, fun176 p0, cond_true, cond_false, Dw_len_gt hjn, Dw_len_pos hjn, Int.toNat_zero, Dw_get j, and3, pre141 p1, fun141 p1, Dw_guard, odd_guard, pre177 p2, fun177 p2, Bool.true_or, Bool.or_true]
        rcases Nat.eq_zero_or_pos (j % 4) with hz | hz
        · rw [bne0_f _ hz, Bool.false_and, cond_false]
          simp [hz]
        · have hr : j % 4 ≠ 0 := by omega
          rw [bne0_t _ hr, Bool.true_and]
          cases hf : furM m neg (decide (j / 4 % 2 = 1)) (j % 4) with
          | true => simp only [cond_true, pre143 p3, fun143 p3]; simp [hf, hr]
          | false => simp only [cond_false]; simp [hf, hr]
end VL
namespace VL
open Go Vx
def sgnF (f : Int) (neg : Bool) : Nat := if neg then 2 ^ (fW f - 1) else 0
def infB (f : Int) (neg : Bool) : Nat := (2 ^ (fW f - fP f) - 1) * 2 ^ (fP f - 1) + sgnF f neg
def upw (m : Int) (neg : Bool) : Bool := ((m == 0 || m == 1) || (m == 3 && !neg)) || (m == 4 && neg)
def beyB (f m : Int) (neg : Bool) : Nat := if upw m neg then infB f neg else infB f neg - 1
theorem T97_ok {f : Int} (h : Fm f) (neg : Bool) : T97 (f, neg, ()) = some ((infB f neg : Int), 0, ()) := by
  rcases Fm_cases h with rfl | rfl | rfl | rfl <;> cases neg <;> kernel_rfl
theorem T43_ok {f : Int} (h : Fm f) (neg : Bool) : T43 (f, neg, ()) = some (((infB f neg - 1 : Nat) : Int), 0, ()) := by
  rcases Fm_cases h with rfl | rfl | rfl | rfl <;> cases neg <;> kernel_rfl
theorem T149_eq {f : Int} (h : Fm f) (m : Int) (neg : Bool) : T149 (f, m, neg, ()) = some ((beyB f m neg : Int), ()) := by
  show t149 S97.pre S97.F S43.pre S43.F f m neg = _
  have p0 := T97_ok h neg
  have p1 := T43_ok h neg
  unfold t149 beyB
  show (bif upw m neg then (bif S97.pre (f, neg, ()) then some ((S97.F (f, neg, ())).1, ()) else none) else (bif S43.pre (f, neg, ()) then some ((S43.F (f, neg, ())).1, ()) else none)) = _
  rw [pre97 p0, fun97 p0, pre43 p1, fun43 p1]
  cases upw m neg <;> rfl
def topE (n : Nat) (e : Int) : Int := e + (blen n : Int) - 1
theorem blen_bound {n k : Nat} (h : n < 2 ^ k) : blen n ≤ k := by
  rcases Nat.eq_zero_or_pos n with rfl | hn
  · exact Nat.zero_le _
  · have := blen_le (n := n) (by omega)
    have : blen n - 1 < k := (Nat.pow_lt_pow_iff_right (a := 2) (by decide)).1 (Nat.lt_of_le_of_lt this h)
    omega
theorem blen_pos {n : Nat} (h : n ≠ 0) : 1 ≤ blen n := by unfold blen; rw [if_neg h]; omega
theorem big_blen {n : Nat} (h : n < (2 ^ 64) ^ 2000) : blen n ≤ 128000 := by
  apply blen_bound
  rw [pow64] at h
  exact h
theorem T151_Dw {n : Nat} (h : n < (2 ^ 64) ^ 5000) : T151 (Dw n, ()) = some ((blen n : Int), ()) := by
  have := T151_eq _ (Dw_ws h)
  rw [nv_Dw] at this
  exact this
theorem lt5000 {n : Nat} (h : n < (2 ^ 64) ^ 2000) : n < (2 ^ 64) ^ 5000 := Nat.lt_trans h (Nat.pow_lt_pow_right (by decide) (by decide))
theorem T148_eq (neg : Bool) (n : Nat) (e : Int) (more : Bool) (hn : n < (2 ^ 64) ^ 2000) (he : -1000000 ≤ e ∧ e ≤ 1000000) : T148 ((neg, Dw n, e, more, ()), ()) = some (topE n e, ()) := by
  show t148 S151.pre S151.F (neg, Dw n, e, more, ()) = _
  unfold t148
  have p0 := T151_Dw (lt5000 hn)
  have hb := big_blen hn
  simp only [pre151 p0, fun151 p0, cond_true]
  rw [wrapI (n := e + (blen n : Int)) (by omega), wrapI (by omega)]
  rfl
/-- what is cut fits -/
theorem quo_lt {n : Nat} {e q : Int} {p : Nat} (h : topE n e - p + 1 ≤ q) : quoE n e q < 2 ^ p := by
  unfold topE at h
  unfold quoE
  have hb := blen_lt n
  by_cases hq : q ≤ e
  · rw [if_pos hq]
    have h1 : n * 2 ^ (e - q).toNat < 2 ^ blen n * 2 ^ (e - q).toNat := Nat.mul_lt_mul_of_pos_right hb (Nat.two_pow_pos _)
    rw [← Nat.pow_add] at h1
    exact Nat.lt_of_lt_of_le h1 (Nat.pow_le_pow_right (by decide) (by omega))
  · rw [if_neg hq, Nat.div_lt_iff_lt_mul (Nat.two_pow_pos _), ← Nat.pow_add]
    exact Nat.lt_of_lt_of_le hb (Nat.pow_le_pow_right (by decide) (by omega))
theorem cut_le {m : Int} {neg : Bool} {n : Nat} {e q : Int} {more : Bool} {p : Nat} (h : topE n e - p + 1 ≤ q) : cutN m neg n e q more ≤ 2 ^ p := by
  have := quo_lt h
  unfold cutN
  split <;> omega
/-- the cut by the program, at the places that it asks for -/
theorem T150_ok (m : Int) (neg : Bool) (n : Nat) (e q : Int) (more : Bool) (hn : n < (2 ^ 64) ^ 2000) (he : -1000000 ≤ e ∧ e ≤ 1000000) {p : Nat} (hp : p ≤ 60) (h1 : topE n e - p + 1 ≤ q) (h2 : q ≤ topE n e ∨ q ≤ 1000) :
    T150 ((neg, Dw n, e, more, ()), m, q, ()) = some (Dw (cutN m neg n e q more), decide (cutR n e q more ≠ 0), ()) := by
  have hb := big_blen hn
  unfold topE at h1 h2
  refine T150_eq m neg n e q more hn (by omega) (by omega) (by omega) fun hs => ?_
  refine ⟨by omega, ?_⟩
  have hl := blen_lt n
  have h3 : n * 2 ^ (2 - (q - e)).toNat < 2 ^ blen n * 2 ^ (2 - (q - e)).toNat := Nat.mul_lt_mul_of_pos_right hl (Nat.two_pow_pos _)
  rw [← Nat.pow_add] at h3
  rw [pow64]
  exact Nat.lt_of_lt_of_le h3 (Nat.pow_le_pow_right (by decide) (by omega))
theorem T152_eq (neg : Bool) (n : Nat) (e : Int) (more : Bool) (f m : Int) (hf : Fm f) (hn : n < (2 ^ 64) ^ 2000) (he : -1000000 ≤ e ∧ e ≤ 1000000) :
    T152 ((neg, Dw n, e, more, ()), rowOf f, m, topE n e, ()) = some (decide (topE n e < 1 - (fX f : Int) ∧ topE n e - fP f + blen (cutN m neg n e (topE n e - fP f + 1) more) < 1 - (fX f : Int)), ()) := by
  show t152 S150.pre S150.F S151.pre S151.F (neg, Dw n, e, more, ()) ((fW f : Int), ((fP f : Int), ((1 - (fX f : Int)), ((fX f : Int), ())))) m (topE n e) = _
  unfold t152
  have hb := big_blen hn
  have hp := fP_lt hf
  have hw := fW_le hf
  have hx := fX_le hf
  have hp8 := fP_ge hf
  have ht : topE n e = e + (blen n : Int) - 1 := rfl
  have p0 := T150_ok m neg n e (topE n e - fP f + 1) more hn he (p := fP f) (by omega) (by omega) (by omega)
  have hc := cut_le (m := m) (neg := neg) (more := more) (n := n) (e := e) (q := topE n e - fP f + 1) (p := fP f) (by omega)
  generalize cutN m neg n e (topE n e - fP f + 1) more = u at *
  have hu : u < (2 ^ 64) ^ 5000 := by
    rw [pow64]
    exact Nat.lt_of_le_of_lt hc (Nat.pow_lt_pow_right (by decide) (by omega))
  have hub : blen u ≤ fP f + 1 := blen_bound (Nat.lt_of_le_of_lt hc (Nat.pow_lt_pow_right (by decide) (by omega)))
  have p1 := T151_Dw hu
  have e1 : IntKind.wrap .i64 (topE n e - (fP f : Int)) = topE n e - (fP f : Int) := wrapI (by omega)
  have e2 : IntKind.wrap .i64 (topE n e - (fP f : Int) + 1) = topE n e - (fP f : Int) + 1 := wrapI (by omega)
  have e3 : IntKind.wrap .i64 (topE n e - (fP f : Int) + (blen u : Int)) = topE n e - (fP f : Int) + (blen u : Int) := wrapI (by omega)
  dsimp only
  rw [e1, e2]
  by_cases h : topE n e ≥ 1 - (fX f : Int)
  · rw [decide_eq_true h, cond_true, decide_eq_false (by omega)]
  · rw [decide_eq_false h, cond_false]
    simp only [pre150 p0, fun150 p0, cond_true, pre151 p1, fun151 p1, e3]
    have : (topE n e < 1 - (fX f : Int)) := by omega
    simp only [this, true_and]
end VL
namespace VL
open Go Vx
/-- the place of the last bit -/
def lowE (f : Int) (t : Int) : Int := (if 1 - (fX f : Int) > t then 1 - (fX f : Int) else t) - fP f + 1
def isTiny (f m : Int) (neg : Bool) (n : Nat) (e : Int) (more : Bool) : Prop := topE n e < 1 - (fX f : Int) ∧ topE n e - fP f + blen (cutN m neg n e (topE n e - fP f + 1) more) < 1 - (fX f : Int)
instance (f m : Int) (neg : Bool) (n : Nat) (e : Int) (more : Bool) : Decidable (isTiny f m neg n e more) := by unfold isTiny; infer_instance
/-- a number's rounding: the bits and the flags -/
def rndN (f m : Int) (neg : Bool) (n : Nat) (e : Int) (more : Bool) : Nat × Nat :=
  if topE n e > fX f then (beyB f m neg, 20)
  else
    let q := lowE f (topE n e)
    let u := cutN m neg n e q more
    if q + blen u - 1 > fX f then (beyB f m neg, 20)
    else ((q - (1 - (fX f : Int) - fP f + 1)).toNat * 2 ^ (fP f - 1) + u + sgnF f neg,
      if cutR n e q more = 0 then 0 else if isTiny f m neg n e more then 24 else 16)
theorem half_eq {f : Int} (hf : Fm f) : (2 * fX f - 1) * 2 ^ (fP f - 1) + 2 ^ fP f + 2 ^ (fP f - 1) = 2 ^ (fW f - 1) := by
  rcases Fm_cases hf with rfl | rfl | rfl | rfl <;> decide
theorem fX_ge {f : Int} (hf : Fm f) : 15 ≤ fX f := by
  rcases Fm_cases hf with rfl | rfl | rfl | rfl <;> decide
theorem T107_eq (neg : Bool) (n : Nat) (e : Int) (more : Bool) (f m : Int) (hf : Fm f) (hn : n < (2 ^ 64) ^ 2000) (he : -1000000 ≤ e ∧ e ≤ 1000000) :
    T107 ((neg, Dw n, e, more, ()), f, rowOf f, m, ()) = some (((rndN f m neg n e more).1 : Int), ((rndN f m neg n e more).2 : Int), ()) := by
  show t107 _ _ _ _ _ _ _ _ _ _ (neg, Dw n, e, more, ()) f ((fW f : Int), ((fP f : Int), ((1 - (fX f : Int)), ((fX f : Int), ())))) m = _
  unfold t107 rndN
  have hb := big_blen hn
  have hp := fP_lt hf
  have hp8 := fP_ge hf
  have hw := fW_le hf
  have hx := fX_le hf
  have hx15 := fX_ge hf
  have ht : topE n e = e + (blen n : Int) - 1 := rfl
  have pt := T148_eq neg n e more hn he
  have pb := T149_eq hf m neg
  have py := T152_eq neg n e more f m hf hn he
  have hrow : rowOf f = ((fW f : Int), ((fP f : Int), ((1 - (fX f : Int)), ((fX f : Int), ())))) := rfl
  rw [hrow] at py
  simp only [pre148 pt, fun148 pt, cond_true]
  by_cases h1 : topE n e > (fX f : Int)
  · rw [if_pos h1, decide_eq_true h1, cond_true]
    simp only [pre149 pb, fun149 pb, cond_true]
    rfl
  rw [if_neg h1, decide_eq_false h1, cond_false]
  have hM : ∃ M : Int, (if 1 - (fX f : Int) > topE n e then 1 - (fX f : Int) else topE n e) = M ∧ topE n e ≤ M ∧ 1 - (fX f : Int) ≤ M ∧ M ≤ fX f ∧ (M = topE n e ∨ M = 1 - (fX f : Int)) := by
    refine ⟨_, rfl, ?_⟩
    split <;> omega
  obtain ⟨M, hMe, m1, m2, m3, m4⟩ := hM
  have hq : lowE f (topE n e) = M - fP f + 1 := by unfold lowE; rw [hMe]
  simp only [hMe, hq]
  have e1 : IntKind.wrap .i64 (M - (fP f : Int)) = M - (fP f : Int) := wrapI (by omega)
  have e2 : IntKind.wrap .i64 (M - (fP f : Int) + 1) = M - (fP f : Int) + 1 := wrapI (by omega)
  simp only [e1, e2]
  have p0 := T150_ok m neg n e (M - (fP f : Int) + 1) more hn he (p := fP f) (by omega) (by omega) (by omega)
  have hc := cut_le (m := m) (neg := neg) (more := more) (n := n) (e := e) (q := M - (fP f : Int) + 1) (p := fP f) (by omega)
  generalize cutN m neg n e (M - (fP f : Int) + 1) more = u at *
  generalize cutR n e (M - (fP f : Int) + 1) more = r at *
  have hP60 : 2 ^ fP f ≤ 2 ^ 60 := Nat.pow_le_pow_right (by decide) (by omega)
  have hu : u < (2 ^ 64) ^ 5000 := by
    rw [pow64]
    exact Nat.lt_of_le_of_lt hc (Nat.pow_lt_pow_right (by decide) (by omega))
  have hub : blen u ≤ fP f + 1 := blen_bound (Nat.lt_of_le_of_lt hc (Nat.pow_lt_pow_right (by decide) (by omega)))
  have p1 := T151_Dw hu
  have e3 : IntKind.wrap .i64 ((fP f : Int) - 1) = ((fP f - 1 : Nat) : Int) := wsub1 _ (by omega)
  have e4 : IntKind.wrap .i64 ((fW f : Int) - 1) = ((fW f - 1 : Nat) : Int) := wsub1 _ (by omega)
  have e5 : IntKind.wrap .i64 (M - (fP f : Int) + 1 + (blen u : Int)) = M - (fP f : Int) + 1 + (blen u : Int) := wrapI (by omega)
  have e6 : IntKind.wrap .i64 (M - (fP f : Int) + 1 + (blen u : Int) - 1) = M - (fP f : Int) + 1 + (blen u : Int) - 1 := wrapI (by omega)
  have e7 : IntKind.wrap .i64 (1 - (fX f : Int) - (fP f : Int)) = 1 - (fX f : Int) - (fP f : Int) := wrapI (by omega)
  have e8 : IntKind.wrap .i64 (1 - (fX f : Int) - (fP f : Int) + 1) = 1 - (fX f : Int) - (fP f : Int) + 1 := wrapI (by omega)
  obtain ⟨k, hk⟩ := Int.eq_ofNat_of_zero_le (show 0 ≤ M - (fP f : Int) + 1 - (1 - (fX f : Int) - (fP f : Int) + 1) by omega)
  have e9 : IntKind.wrap .i64 (M - (fP f : Int) + 1 - (1 - (fX f : Int) - (fP f : Int) + 1)) = (k : Int) := by rw [wrapI (by omega)]; exact hk
  have e10 : IntKind.wrap .u64 (k : Int) = (k : Int) := wrapU (by omega)
  have hkn : (M - (fP f : Int) + 1 - (1 - (fX f : Int) - (fP f : Int) + 1)).toNat = k := by omega
  have hhalf := half_eq hf
  have hk2 : k ≤ 2 * fX f - 1 := by omega
  have hk3 := Nat.mul_le_mul_right (2 ^ (fP f - 1)) hk2
  have hW64 : 2 ^ (fW f - 1) ≤ 2 ^ 63 := Nat.pow_le_pow_right (by decide) (by omega)
  have hpp := Nat.two_pow_pos (fP f - 1)
  have e11 : shlI .u64 (k : Int) ((fP f - 1 : Nat) : Int) = ((k * 2 ^ (fP f - 1) : Nat) : Int) := by
    rw [shlN _ _ (by omega), Nat.mod_eq_of_lt (by omega)]
  have e12 : shlI .u64 1 ((fW f - 1 : Nat) : Int) = ((1 * 2 ^ (fW f - 1) : Nat) : Int) := by rw [shlI_one (by omega), Nat.one_mul]
  generalize hA : k * 2 ^ (fP f - 1) = A at *
  have hbits : A + u < 2 ^ (fW f - 1) := by omega
  have e13 : IntKind.wrap .u64 ((A : Int) + ((u % 2 ^ 64 : Nat) : Int)) = ((A + u : Nat) : Int) := by
    rw [Nat.mod_eq_of_lt (by omega), wrapU (by omega)]; omega
  have hor : ∀ b : Nat, b < 2 ^ (fW f - 1) → orI .u64 (b : Int) ((1 * 2 ^ (fW f - 1) : Nat) : Int) = ((b + 2 ^ (fW f - 1) : Nat) : Int) := fun b hb => by
    have := orN (a := b) (b := 1) (k := fW f - 1) hb (by omega)
    rw [Nat.one_mul] at this ⊢
    exact this
  have hsg : sgnF f neg = if neg then 2 ^ (fW f - 1) else 0 := rfl
  have htd : decide (topE n e < 1 - (fX f : Int) ∧ topE n e - fP f + blen (cutN m neg n e (topE n e - fP f + 1) more) < 1 - (fX f : Int)) = decide (isTiny f m neg n e more) := by
    unfold isTiny; rfl
  rw [htd] at py
  simp only [pre150 p0, fun150 p0, cond_true, e3, nnn, pre151 p1, fun151 p1, e5, e6, e7, e8, e9, e10, e11, e4, e12, hkn, hA]
  rcases Nat.eq_zero_or_pos u with hu0 | hu0
  · subst hu0
    have hl0 : decide ((((Dw 0).length : Nat) : Int) > 0) = false := by rw [Dw_zero]; rfl
    rw [hl0, cond_false]
    by_cases h2 : M - (fP f : Int) + 1 + (blen 0 : Int) - 1 > (fX f : Int)
    · rw [decide_eq_true h2, cond_true, if_pos h2]
      simp only [pre149 pb, fun149 pb, cond_true]
      rfl
    · rw [decide_eq_false h2, cond_false, if_neg h2]
      have hbi := hor (A) (by omega)
      rw [hbi]
      by_cases hr : r = 0
      · rw [if_pos hr, decide_eq_false (p := r ≠ 0) (by omega)]
        simp only [Bool.not_false, cond_true]
        cases neg <;> rfl
      · rw [if_neg hr, decide_eq_true (p := r ≠ 0) hr]
        simp only [Bool.not_true, cond_false, pre152 py, fun152 py, cond_true]
        by_cases hti : isTiny f m neg n e more
        · rw [if_pos hti, decide_eq_true hti]
          cases neg <;> rfl
        · rw [if_neg hti, decide_eq_false hti]
          cases neg <;> rfl
  · have hun : u ≠ 0 := by omega
    simp only [Dw_len_gt hun, Dw_len_pos hun, cond_true, Int.toNat_zero, Dw_get, e13]
    by_cases h2 : M - (fP f : Int) + 1 + (blen u : Int) - 1 > (fX f : Int)
    · rw [decide_eq_true h2, cond_true, if_pos h2]
      simp only [pre149 pb, fun149 pb, cond_true]
      rfl
    · rw [decide_eq_false h2, cond_false, if_neg h2]
      have hbi := hor (A + u) (by omega)
      rw [hbi]
      by_cases hr : r = 0
      · rw [if_pos hr, decide_eq_false (p := r ≠ 0) (by omega)]
        simp only [Bool.not_false, cond_true]
        cases neg <;> rfl
      · rw [if_neg hr, decide_eq_true (p := r ≠ 0) hr]
        simp only [Bool.not_true, cond_false, pre152 py, fun152 py, cond_true]
        by_cases hti : isTiny f m neg n e more
        · rw [if_pos hti, decide_eq_true hti]
          cases neg <;> rfl
        · rw [if_neg hti, decide_eq_false hti]
          cases neg <;> rfl
theorem T105_ok {f m : Int} (hf : Fm f) (hm : 0 ≤ m ∧ m ≤ 5) : T105 (f, m, ()) = some (rowOf f, 0, ()) := by
  show t105 S69.pre S69.F S147.pre S147.F f m = _
  unfold t105
  have p0 := T69_ok hf
  have p1 : T147 (m, ()) = some (0, ()) := by
    show t147 m = _
    unfold t147
    rw [decide_eq_false (show ¬ m < 0 by omega), decide_eq_false (show ¬ m > 5 by omega)]; rfl
  simp only [pre69 p0, fun69 p0, cond_true, pre147 p1, fun147 p1]
  rfl
end VL
namespace VL
open Go Vx
theorem cls_more {r k s ρ : Nat} (hρ : 0 < ρ) (hρ2 : ρ < 2 ^ k) (hs : 1 ≤ s) : clsR (ρ + 2 ^ k * r) (k + s) = clsR r s / 2 * 2 + 1 := by
  unfold clsR
  have hp : 2 ^ (k + s - 1) = 2 ^ k * 2 ^ (s - 1) := by rw [← Nat.pow_add]; congr 1; omega
  rw [hp]
  have hh := Nat.two_pow_pos (s - 1)
  generalize 2 ^ (s - 1) = h at *
  generalize 2 ^ k = K at *
  rw [if_neg (by omega)]
  rcases Nat.lt_trichotomy r h with h1 | h1 | h1
  · have : K * (r + 1) ≤ K * h := Nat.mul_le_mul_left _ h1
    rw [Nat.mul_add, Nat.mul_one] at this
    rw [if_pos (by omega)]
    by_cases hr : r = 0
    · rw [if_pos hr]
    · rw [if_neg hr, if_pos h1]
  · subst h1
    rw [if_neg (by omega), if_neg (by omega), if_neg (by omega), if_neg (by omega), if_pos rfl]
  · have : K * (h + 1) ≤ K * r := Nat.mul_le_mul_left _ h1
    rw [Nat.mul_add, Nat.mul_one] at this
    rw [if_neg (by omega), if_neg (by omega), if_neg (by omega), if_neg (by omega), if_neg (by omega)]
theorem cls_scale {r k s : Nat} (hs : 1 ≤ s) : clsR (2 ^ k * r) (k + s) = clsR r s := by
  unfold clsR
  have hp : 2 ^ (k + s - 1) = 2 ^ k * 2 ^ (s - 1) := by rw [← Nat.pow_add]; congr 1; omega
  rw [hp]
  have hk := Nat.two_pow_pos k
  generalize 2 ^ (s - 1) = h at *
  generalize 2 ^ k = K at *
  have h1 : K * r = 0 ↔ r = 0 := by
    constructor
    · intro h; rcases Nat.mul_eq_zero.1 h with h | h <;> omega
    · intro h; rw [h, Nat.mul_zero]
  have h2 : K * r < K * h ↔ r < h := Nat.mul_lt_mul_left hk
  have h3 : K * r = K * h ↔ r = h := Nat.mul_right_inj (by omega)
  simp only [h1, h2, h3]
theorem mod_split (N k s : Nat) : N % 2 ^ (k + s) = N % 2 ^ k + 2 ^ k * (N / 2 ^ k % 2 ^ s) := by
  rw [Nat.pow_add, Nat.mod_mul]
theorem quoE_lo {n : Nat} {e q : Int} (h : q ≤ e) : quoE n e q = n * 2 ^ (e - q).toNat := if_pos h
theorem quoE_hi {n : Nat} {e q : Int} (h : e < q) : quoE n e q = n / 2 ^ (q - e).toNat := if_neg (by omega)
theorem rstE_lo {n : Nat} {e q : Int} (h : q ≤ e) : rstE n e q = 0 := if_pos h
theorem rstE_hi {n : Nat} {e q : Int} (h : e < q) : rstE n e q = clsR (n % 2 ^ (q - e).toNat) (q - e).toNat := if_neg (by omega)
theorem cutR_f (n : Nat) (e q : Int) : cutR n e q false = rstE n e q := rfl
theorem cutR_t (n : Nat) (e q : Int) : cutR n e q true = rstE n e q / 2 * 2 + 1 := rfl
/-- with a part cut away, and the mark that there was one -/
theorem cut_trunc {N k : Nat} {E q : Int} (hq : N % 2 ^ k ≠ 0 → E + k < q) :
    quoE (N / 2 ^ k) (E + k) q = quoE N E q ∧ cutR (N / 2 ^ k) (E + k) q (decide (N % 2 ^ k ≠ 0)) = cutR N E q false := by
  have hk := Nat.two_pow_pos k
  have hdm := Nat.div_add_mod N (2 ^ k)
  by_cases h1 : E + k < q
  · have es : (q - E).toNat = k + (q - (E + k)).toNat := by omega
    have hs : 1 ≤ (q - (E + k)).toNat := by omega
    rw [quoE_hi h1, quoE_hi (by omega), cutR_f, rstE_hi (e := E) (by omega), es]
    have hrs := rstE_hi (n := N / 2 ^ k) h1
    generalize (q - (E + k)).toNat = s at *
    refine ⟨by rw [Nat.div_div_eq_div_mul, ← Nat.pow_add], ?_⟩
    rw [mod_split]
    by_cases hr : N % 2 ^ k = 0
    · rw [hr, Nat.zero_add, cls_scale hs, show decide ((0 : Nat) ≠ 0) = false by decide, cutR_f, hrs]
    · have hρ : 0 < N % 2 ^ k := by omega
      rw [cls_more hρ (Nat.mod_lt _ hk) hs, decide_eq_true hr, cutR_t, hrs]
  · have hr : N % 2 ^ k = 0 := by
      by_cases h : N % 2 ^ k = 0
      · exact h
      · exact absurd (hq h) h1
    rw [hr, Nat.add_zero] at hdm
    rw [hr]
    clear hq hr
    generalize N / 2 ^ k = n at *
    subst hdm
    have hz : decide ((0 : Nat) ≠ 0) = false := by decide
    rw [hz, quoE_lo (by omega), cutR_f, cutR_f, rstE_lo (by omega)]
    by_cases h2 : q ≤ E
    · rw [quoE_lo h2, rstE_lo h2, show (E + k - q).toNat = k + (E - q).toNat by omega, Nat.pow_add, Nat.mul_comm (2 ^ k) n, Nat.mul_assoc]
      exact ⟨rfl, rfl⟩
    · rw [quoE_hi (by omega), rstE_hi (by omega)]
      have ek : k = (q - E).toNat + (E + k - q).toNat := by omega
      generalize (q - E).toNat = s at *
      generalize (E + k - q).toNat = t at *
      have : 2 ^ k * n = 2 ^ s * (2 ^ t * n) := by rw [ek, Nat.pow_add, Nat.mul_assoc]
      rw [this, Nat.mul_div_cancel_left _ (Nat.two_pow_pos s), Nat.mul_mod_right]
      exact ⟨Nat.mul_comm _ _, rfl⟩
theorem cutN_trunc {m : Int} {neg : Bool} {N k : Nat} {E q : Int} (hq : N % 2 ^ k ≠ 0 → E + k < q) : cutN m neg (N / 2 ^ k) (E + k) q (decide (N % 2 ^ k ≠ 0)) = cutN m neg N E q false := by
  obtain ⟨h1, h2⟩ := cut_trunc hq
  unfold cutN
  rw [h1, h2]
theorem top_trunc {N k : Nat} {E : Int} (hn : N / 2 ^ k ≠ 0) : topE (N / 2 ^ k) (E + k) = topE N E := by
  have hk := Nat.two_pow_pos k
  have h1 : 2 ^ k ≤ N := by
    rcases Nat.lt_or_ge N (2 ^ k) with h | h
    · exact absurd (Nat.div_eq_of_lt h) hn
    · exact h
  have := blen_shift h1
  unfold topE
  omega
theorem rnd_trunc {f m : Int} {neg : Bool} {N k : Nat} {E : Int} (hf : Fm f) (hn : N / 2 ^ k ≠ 0) (hm : N % 2 ^ k ≠ 0 → fP f + 2 ≤ blen (N / 2 ^ k)) : rndN f m neg (N / 2 ^ k) (E + k) (decide (N % 2 ^ k ≠ 0)) = rndN f m neg N E false := by
  have ht := top_trunc (E := E) hn
  have htd : topE (N / 2 ^ k) (E + k) = E + k + (blen (N / 2 ^ k) : Int) - 1 := rfl
  have hq1 : N % 2 ^ k ≠ 0 → E + k < lowE f (topE N E) := fun h => by
    have := hm h
    unfold lowE
    split <;> omega
  have hq2 : N % 2 ^ k ≠ 0 → E + k < topE N E - fP f + 1 := fun h => by
    have := hm h
    omega
  have hti : isTiny f m neg (N / 2 ^ k) (E + k) (decide (N % 2 ^ k ≠ 0)) = isTiny f m neg N E false := by
    unfold isTiny
    rw [ht, cutN_trunc hq2]
  unfold rndN
  simp only [ht, cutN_trunc hq1, (cut_trunc hq1).2, hti]
theorem rnd_scale {f m : Int} {neg : Bool} (hf : Fm f) {n : Nat} (hn : n ≠ 0) (k : Nat) (e : Int) : rndN f m neg (n * 2 ^ k) e false = rndN f m neg n (e + k) false := by
  have hk := Nat.two_pow_pos k
  have := rnd_trunc (f := f) (m := m) (neg := neg) (N := n * 2 ^ k) (k := k) (E := e) hf (by rw [Nat.mul_div_cancel _ hk]; exact hn) (by rw [Nat.mul_mod_left]; omega)
  rw [Nat.mul_div_cancel _ hk, Nat.mul_mod_left] at this
  exact this.symm
end VL
namespace VL
open Go Vx
theorem blen_ge {n k : Nat} (h : 2 ^ k ≤ n) : k + 1 ≤ blen n := by
  have h1 := blen_lt n
  have : k < blen n := (Nat.pow_lt_pow_iff_right (a := 2) (by decide)).1 (Nat.lt_of_le_of_lt h h1)
  omega
end VL
namespace VL
open Go Vx
def Hs (l : List Nat) : Prop := (∀ x ∈ l, x < 2 ^ 32) ∧ l.length ≤ 1000000
theorem Hs.dg {n : Nat} (h : n < 2 ^ 100000) : Hs (dg (2 ^ 32) n) := by
  refine ⟨dg_lt (by decide) n, ?_⟩
  have : n < (2 ^ 32) ^ 3125 := by rw [← Nat.pow_mul]; exact h
  have := dg_len_le (B := 2 ^ 32) (by decide) 3125 n this
  omega
theorem wu_id (n : Nat) (h : n < 2 ^ 64) : IntKind.wrap .u64 (n : Int) = (n : Int) := wrapU (by omega)
theorem wu_add (a b : Nat) (h : a + b < 2 ^ 64) : IntKind.wrap .u64 ((a : Int) + (b : Int)) = ((a + b : Nat) : Int) := by
  rw [← Int.natCast_add, wu_id _ h]
theorem app_lt {B : Nat} {l : List Nat} {v : Nat} (h : ∀ x ∈ l, x < B) (hv : v < B) : ∀ x ∈ l ++ [v], x < B := fun x hx => by
  rcases List.mem_append.1 hx with hx | hx
  · exact h x hx
  · have : x = v := by simpa using hx
    rw [this]; exact hv
theorem nv_snoc (B : Nat) (l : List Nat) (v : Nat) : nv B (l ++ [v]) = nv B l + B ^ l.length * v := by
  rw [nv_append]; simp [nv]
theorem carry_step {B : Nat} {out : List Nat} {k c V V' d : Nat} (hol : out.length = k) (hov : nv B out + B ^ k * c = V) (hV : V' = V + B ^ k * d) :
    nv B (out ++ [(d + c) % B]) + B ^ (k + 1) * ((d + c) / B) = V' := by
  rw [nv_snoc, hol, hV, ← hov, Nat.pow_succ, Nat.mul_assoc, Nat.add_assoc, ← Nat.mul_add]
  have := Nat.mod_add_div (d + c) B
  rw [this, Nat.mul_add]
  omega
theorem carry_end {B : Nat} (hB : 2 ≤ B) {out : List Nat} {k c V : Nat} (hol : out.length = k) (hod : ∀ x ∈ out, x < B) (hov : nv B out + B ^ k * c = V) : out = pd B k (V % B ^ k) ∧ c = V / B ^ k := by
  have hlt := nv_lt hB out hod
  rw [hol] at hlt
  have hp : 0 < B ^ k := Nat.pow_pos (by omega)
  refine ⟨pd_at (by omega) hod hol ?_, ?_⟩
  · rw [← hov, Nat.add_mul_mod_self_left, Nat.mod_eq_of_lt hlt]
  · rw [← hov, Nat.add_mul_div_left _ _ hp, Nat.div_eq_of_lt hlt, Nat.zero_add]
end VL
namespace VL
open Go Vx
theorem nv_drop_next (B : Nat) (l : List Nat) (i : Nat) (h : i < l.length) : nv B (l.drop i) = l.getD i 0 + B * nv B (l.drop (i + 1)) := by
  rw [List.drop_eq_getElem_cons h, List.getD_eq_getElem?_getD, List.getElem?_eq_getElem h]; rfl
theorem take_lt {B : Nat} (hB : 2 ≤ B) {l : List Nat} (h : ∀ x ∈ l, x < B) (i : Nat) : nv B (l.take i) < B ^ i := by
  have := nv_lt hB (l.take i) fun x hx => h x (List.mem_of_mem_take hx)
  refine Nat.lt_of_lt_of_le this (Nat.pow_le_pow_right (by omega) ?_)
  rw [List.length_take]
  exact Nat.min_le_left _ _
theorem split_lt {P A A' X Y : Nat} (h : A < P) (hxy : X < Y) : A + P * X < A' + P * Y := by
  have : P * (X + 1) ≤ P * Y := Nat.mul_le_mul_left _ hxy
  rw [Nat.mul_add, Nat.mul_one] at this
  omega
theorem row_lt {B : Nat} (hB : 2 ≤ B) {a b : List Nat} (ha : ∀ x ∈ a, x < B) {i : Nat} (hia : i < a.length) (hib : i < b.length) (hd : nv B (a.drop (i + 1)) = nv B (b.drop (i + 1))) (h : a.getD i 0 < b.getD i 0) : nv B a < nv B b := by
  rw [nv_split B a i (by omega), nv_split B b i (by omega), nv_drop_next B a i hia, nv_drop_next B b i hib, hd]
  exact split_lt (take_lt hB ha i) (by omega)
theorem dg_len_lt {B : Nat} (hB : 2 ≤ B) {x y : Nat} (h : (dg B x).length < (dg B y).length) : x < y := by
  have h1 := dg_len_gt hB x
  rcases Nat.lt_or_ge x y with h2 | h2
  · exact h2
  · have := dg_len_le hB (dg B x).length y (by omega)
    omega
theorem minus_step {P B A A' O a b c c' v : Nat} (h : A + P * c = A' + O) (h2 : a + B * c' = b + c + v) : A + P * a + P * B * c' = A' + P * b + (O + P * v) := by
  have h3 : P * (a + B * c') = P * (b + c + v) := by rw [h2]
  rw [Nat.mul_add, Nat.mul_add, Nat.mul_add, ← Nat.mul_assoc] at h3
  omega
theorem dg_len_mono {B : Nat} (hB : 2 ≤ B) {x y : Nat} (h : y ≤ x) : (dg B y).length ≤ (dg B x).length := by
  rcases Nat.lt_or_ge (dg B x).length (dg B y).length with h1 | h1
  · have := dg_len_lt hB h1; omega
  · exact h1
theorem Hs.len {n : Nat} (h : n < 2 ^ 100000) : (VL.dg (2 ^ 32) n).length ≤ 3125 := by
  have : n < (2 ^ 32) ^ 3125 := by rw [← Nat.pow_mul]; exact h
  exact dg_len_le (B := 2 ^ 32) (by decide) 3125 n this
end VL
namespace VL
open Go Vx
theorem fP_le {f : Int} (hf : Fm f) : fP f ≤ 53 := by
  rcases Fm_cases hf with rfl | rfl | rfl | rfl <;> decide
theorem cut_lt_big {f m : Int} (hf : Fm f) {neg : Bool} {n : Nat} {e q : Int} (h : topE n e - fP f + 1 ≤ q) : cutN m neg n e q false ≤ 2 ^ fP f := cut_le h
end VL
namespace VL
open Go Vx
/-- a number's mantissa and its exponent -/
def mant (f : Int) (a : Nat) : Nat := if eF f a = 0 then mF f a else mF f a + 2 ^ (fP f - 1)
def xpn (f : Int) (a : Nat) : Int := 1 - (fX f : Int) - (fP f : Int) + 1 + (if eF f a = 0 then 0 else (eF f a : Int) - 1)
theorem mF_lt (f : Int) (a : Nat) : mF f a < 2 ^ (fP f - 1) := Nat.mod_lt _ (Nat.two_pow_pos _)
theorem mant_lt {f : Int} (hf : Fm f) (a : Nat) : mant f a < 2 ^ 53 := by
  have h1 := mF_lt f a
  have h2 := fP_ge hf
  have h3 := fP_lt hf
  have h4 := fW_le hf
  have h5 : 2 ^ (fP f - 1) ≤ 2 ^ 52 := Nat.pow_le_pow_right (by decide) (by rcases Fm_cases hf with rfl | rfl | rfl | rfl <;> decide)
  unfold mant
  split <;> omega
theorem eF_lt {f : Int} (hf : Fm f) (a : Nat) : eF f a < 2048 := by
  have : 2 ^ (fW f - fP f) ≤ 2 ^ 11 := Nat.pow_le_pow_right (by decide) (by rcases Fm_cases hf with rfl | rfl | rfl | rfl <;> decide)
  have h : eF f a < 2 ^ (fW f - fP f) := Nat.mod_lt _ (Nat.two_pow_pos _)
  omega
theorem xpn_bound {f : Int} (hf : Fm f) (a : Nat) : -2000 ≤ xpn f a ∧ xpn f a ≤ 2000 := by
  have h1 := eF_lt hf a
  have h2 := fX_le hf
  have h3 := fP_le hf
  have h4 := fX_ge hf
  have h5 := fP_ge hf
  have h6 : (eF f a : Int) ≤ 2 * fX f + 1 := by
    have : eF f a < 2 ^ (fW f - fP f) := Nat.mod_lt _ (Nat.two_pow_pos _)
    have := fX_eq hf
    omega
  unfold xpn
  split <;> omega
/-- is it without end -/
def isInf (f : Int) (a : Nat) : Bool := eF f a == fullF f && mF f a == 0
theorem full_vals {f : Int} {a : Nat} (h : eF f a = fullF f) : nan f a = (!(mF f a == 0)) ∧ snan f a = (!(mF f a == 0) && (mF f a / 2 ^ (fP f - 2) == 0)) ∧ isInf f a = (mF f a == 0) := by
  unfold snan nan isInf
  rw [h]
  simp [bne]
theorem part_vals {f : Int} {a : Nat} (h : eF f a ≠ fullF f) : nan f a = false ∧ snan f a = false ∧ isInf f a = false := by
  unfold snan nan isInf
  simp [h]
end VL
namespace VL
open Go Vx
def qm (f : Int) : Int := 1 - (fX f : Int) - (fP f : Int) + 1
end VL
namespace VL
open Go Vx
/-- six values, the first i of them filled -/
def sl (V : Nat → Int) (i : Nat) : List Int := [if 0 < i then V 0 else 0, if 1 < i then V 1 else 0, if 2 < i then V 2 else 0, if 3 < i then V 3 else 0, if 4 < i then V 4 else 0, if 5 < i then V 5 else 0]
end VL
namespace Vx
open Go Go.Proofs
/-- vernier/format.Value -/
abbrev I40 : Sig := [(false, .int .i64), (false, .int .u64)]
abbrev O40 : Sig := [(true, .pair (.bool) (.pair (.slice (.int .u64)) (.pair (.int .i64) (.unit)))), (false, .int .i64)]
noncomputable def t40 (p66 : DenS I66 → Bool) (f66 : DenS I66 → DenS O66) (p90 : DenS I90 → Bool) (f90 : DenS I90 → DenS O90) (p91 : DenS I91 → Bool) (f91 : DenS I91 → DenS O91) (p92 : DenS I92 → Bool) (f92 : DenS I92 → DenS O92) (a0 : Den (.int .i64)) (a1 : Den (.int .u64)) : Option (DenS O40) :=
  bif (p66 (a0, (a1, ()))) then
  (bif ((f66 (a0, (a1, ()))).1 != (0 : Int)) then
  (some ((false, ([], ((0 : Int), ()))), (f66 (a0, (a1, ())))))
  else bif (bif (decide ((0 : Int) ≤ a0)) then (decide (a0 < ((4 : Nat) : Int))) else false) then
  (bif (p90 ((Vx.k_rows.getD (Int.toNat a0) ((0 : Int), ((0 : Int), ((0 : Int), ((0 : Int), ()))))), (a1, ()))) then
  (bif (p91 ((Go.IntKind.wrap Go.IntKind.i64 ((Vx.k_rows.getD (Int.toNat a0) ((0 : Int), ((0 : Int), ((0 : Int), ((0 : Int), ()))))).1 - (Vx.k_rows.getD (Int.toNat a0) ((0 : Int), ((0 : Int), ((0 : Int), ((0 : Int), ()))))).2.1)), ())) then
  (bif ((f90 ((Vx.k_rows.getD (Int.toNat a0) ((0 : Int), ((0 : Int), ((0 : Int), ((0 : Int), ()))))), (a1, ()))).2.1 == (f91 ((Go.IntKind.wrap Go.IntKind.i64 ((Vx.k_rows.getD (Int.toNat a0) ((0 : Int), ((0 : Int), ((0 : Int), ((0 : Int), ()))))).1 - (Vx.k_rows.getD (Int.toNat a0) ((0 : Int), ((0 : Int), ((0 : Int), ((0 : Int), ()))))).2.1)), ())).1) then
  (some ((false, ([], ((0 : Int), ()))), ((40 : Int), ())))
  else bif ((f90 ((Vx.k_rows.getD (Int.toNat a0) ((0 : Int), ((0 : Int), ((0 : Int), ((0 : Int), ()))))), (a1, ()))).2.1 == (0 : Int)) then
  (bif ((f90 ((Vx.k_rows.getD (Int.toNat a0) ((0 : Int), ((0 : Int), ((0 : Int), ((0 : Int), ()))))), (a1, ()))).2.2.1 == (0 : Int)) then
  (some ((false, ([], ((0 : Int), ()))), ((0 : Int), ())))
  else bif (p92 (f90 ((Vx.k_rows.getD (Int.toNat a0) ((0 : Int), ((0 : Int), ((0 : Int), ((0 : Int), ()))))), (a1, ()))).2.2) then
  (bif (decide ((0 : Int) ≤ (f92 (f90 ((Vx.k_rows.getD (Int.toNat a0) ((0 : Int), ((0 : Int), ((0 : Int), ((0 : Int), ()))))), (a1, ()))).2.2).1)) then
  (some (((f90 ((Vx.k_rows.getD (Int.toNat a0) ((0 : Int), ((0 : Int), ((0 : Int), ((0 : Int), ()))))), (a1, ()))).1, (((Vx.shrI Go.IntKind.u64 (f90 ((Vx.k_rows.getD (Int.toNat a0) ((0 : Int), ((0 : Int), ((0 : Int), ((0 : Int), ()))))), (a1, ()))).2.2.1 (f92 (f90 ((Vx.k_rows.getD (Int.toNat a0) ((0 : Int), ((0 : Int), ((0 : Int), ((0 : Int), ()))))), (a1, ()))).2.2).1) :: []), ((Go.IntKind.wrap Go.IntKind.i64 ((Go.IntKind.wrap Go.IntKind.i64 ((Go.IntKind.wrap Go.IntKind.i64 ((Go.IntKind.wrap Go.IntKind.i64 ((Go.IntKind.wrap Go.IntKind.i64 ((Go.IntKind.wrap Go.IntKind.i64 (1 : Int)) - (1 : Int))) + (Vx.k_rows.getD (Int.toNat a0) ((0 : Int), ((0 : Int), ((0 : Int), ((0 : Int), ()))))).2.2.1)) - (Vx.k_rows.getD (Int.toNat a0) ((0 : Int), ((0 : Int), ((0 : Int), ((0 : Int), ()))))).2.1)) + (1 : Int))) + (f92 (f90 ((Vx.k_rows.getD (Int.toNat a0) ((0 : Int), ((0 : Int), ((0 : Int), ((0 : Int), ()))))), (a1, ()))).2.2).1)), ()))), ((0 : Int), ())))
  else none)
  else none)
  else bif (decide ((0 : Int) ≤ (Go.IntKind.wrap Go.IntKind.i64 ((Vx.k_rows.getD (Int.toNat a0) ((0 : Int), ((0 : Int), ((0 : Int), ((0 : Int), ()))))).2.1 - (1 : Int))))) then
  (bif ((Vx.orI Go.IntKind.u64 (f90 ((Vx.k_rows.getD (Int.toNat a0) ((0 : Int), ((0 : Int), ((0 : Int), ((0 : Int), ()))))), (a1, ()))).2.2.1 (Vx.shlI Go.IntKind.u64 (1 : Int) (Go.IntKind.wrap Go.IntKind.i64 ((Vx.k_rows.getD (Int.toNat a0) ((0 : Int), ((0 : Int), ((0 : Int), ((0 : Int), ()))))).2.1 - (1 : Int))))) == (0 : Int)) then
  (some ((false, ([], ((0 : Int), ()))), ((0 : Int), ())))
  else bif (p92 ((Vx.orI Go.IntKind.u64 (f90 ((Vx.k_rows.getD (Int.toNat a0) ((0 : Int), ((0 : Int), ((0 : Int), ((0 : Int), ()))))), (a1, ()))).2.2.1 (Vx.shlI Go.IntKind.u64 (1 : Int) (Go.IntKind.wrap Go.IntKind.i64 ((Vx.k_rows.getD (Int.toNat a0) ((0 : Int), ((0 : Int), ((0 : Int), ((0 : Int), ()))))).2.1 - (1 : Int))))), ())) then
  (bif (decide ((0 : Int) ≤ (f92 ((Vx.orI Go.IntKind.u64 (f90 ((Vx.k_rows.getD (Int.toNat a0) ((0 : Int), ((0 : Int), ((0 : Int), ((0 : Int), ()))))), (a1, ()))).2.2.1 (Vx.shlI Go.IntKind.u64 (1 : Int) (Go.IntKind.wrap Go.IntKind.i64 ((Vx.k_rows.getD (Int.toNat a0) ((0 : Int), ((0 : Int), ((0 : Int), ((0 : Int), ()))))).2.1 - (1 : Int))))), ())).1)) then
  (some (((f90 ((Vx.k_rows.getD (Int.toNat a0) ((0 : Int), ((0 : Int), ((0 : Int), ((0 : Int), ()))))), (a1, ()))).1, (((Vx.shrI Go.IntKind.u64 (Vx.orI Go.IntKind.u64 (f90 ((Vx.k_rows.getD (Int.toNat a0) ((0 : Int), ((0 : Int), ((0 : Int), ((0 : Int), ()))))), (a1, ()))).2.2.1 (Vx.shlI Go.IntKind.u64 (1 : Int) (Go.IntKind.wrap Go.IntKind.i64 ((Vx.k_rows.getD (Int.toNat a0) ((0 : Int), ((0 : Int), ((0 : Int), ((0 : Int), ()))))).2.1 - (1 : Int))))) (f92 ((Vx.orI Go.IntKind.u64 (f90 ((Vx.k_rows.getD (Int.toNat a0) ((0 : Int), ((0 : Int), ((0 : Int), ((0 : Int), ()))))), (a1, ()))).2.2.1 (Vx.shlI Go.IntKind.u64 (1 : Int) (Go.IntKind.wrap Go.IntKind.i64 ((Vx.k_rows.getD (Int.toNat a0) ((0 : Int), ((0 : Int), ((0 : Int), ((0 : Int), ()))))).2.1 - (1 : Int))))), ())).1) :: []), ((Go.IntKind.wrap Go.IntKind.i64 ((Go.IntKind.wrap Go.IntKind.i64 ((Go.IntKind.wrap Go.IntKind.i64 ((Go.IntKind.wrap Go.IntKind.i64 ((Go.IntKind.wrap Go.IntKind.i64 ((Go.IntKind.wrap Go.IntKind.i64 (f90 ((Vx.k_rows.getD (Int.toNat a0) ((0 : Int), ((0 : Int), ((0 : Int), ((0 : Int), ()))))), (a1, ()))).2.1) - (1 : Int))) + (Vx.k_rows.getD (Int.toNat a0) ((0 : Int), ((0 : Int), ((0 : Int), ((0 : Int), ()))))).2.2.1)) - (Vx.k_rows.getD (Int.toNat a0) ((0 : Int), ((0 : Int), ((0 : Int), ((0 : Int), ()))))).2.1)) + (1 : Int))) + (f92 ((Vx.orI Go.IntKind.u64 (f90 ((Vx.k_rows.getD (Int.toNat a0) ((0 : Int), ((0 : Int), ((0 : Int), ((0 : Int), ()))))), (a1, ()))).2.2.1 (Vx.shlI Go.IntKind.u64 (1 : Int) (Go.IntKind.wrap Go.IntKind.i64 ((Vx.k_rows.getD (Int.toNat a0) ((0 : Int), ((0 : Int), ((0 : Int), ((0 : Int), ()))))).2.1 - (1 : Int))))), ())).1)), ()))), ((0 : Int), ())))
  else none)
  else none)
  else none)
  else none)
  else none)
  else none)
  else none
theorem r40 (p66 : DenS I66 → Bool) (f66 : DenS I66 → DenS O66) (p90 : DenS I90 → Bool) (f90 : DenS I90 → DenS O90) (p91 : DenS I91 → Bool) (f91 : DenS I91 → DenS O91) (p92 : DenS I92 → Bool) (f92 : DenS I92 → DenS O92) (a0 : Den (.int .i64)) (a1 : Den (.int .u64)) :
    run { P := Go.Proofs.Tryd.prog, sums := [(66, ⟨I66, O66, p66, f66⟩), (90, ⟨I90, O90, p90, f90⟩), (91, ⟨I91, O91, p91, f91⟩), (92, ⟨I92, O92, p92, f92⟩)], loops := [], globs := G1 } 9 40 Go.Proofs.Tryd.f40 I40 O40 (a0, a1, ()) = t40 p66 f66 p90 f90 p91 f91 p92 f92 a0 a1 := by kernel_rfl
noncomputable def T40 (x : DenS I40) : Option (DenS O40) := t40 S66.pre S66.F S90.pre S90.F S91.pre S91.F S92.pre S92.F x.1 x.2.1
noncomputable def C40 : Cfg := { P := Go.Proofs.Tryd.prog, sums := [(66, S66), (90, S90), (91, S91), (92, S92)], loops := [], globs := G1 }
noncomputable def S40 : Sum := sumOf I40 O40 T40 (DenS.dflt O40)
theorem S40_sound : Sound Go.Proofs.Tryd.prog G1 40 S40 :=
  fn_sound C40 9 40 Go.Proofs.Tryd.f40 mixedOk (by kernel_rfl) (by kernel_rfl) (by kernel_rfl) ⟨S66_sound.more G01, ⟨S90_sound.more G01, ⟨S91_sound.more G01, ⟨S92_sound, trivial⟩⟩⟩⟩ trivial I40 O40 T40 _ fun x => r40 S66.pre S66.F S90.pre S90.F S91.pre S91.F S92.pre S92.F x.1 x.2.1
/-- vernier/dyad.refuses -/
abbrev I103 : Sig := [(true, .pair (.bool) (.pair (.slice (.int .u64)) (.pair (.int .i64) (.unit))))]
abbrev O103 : Sig := [(false, .int .i64)]
noncomputable def t103 (a0 : Den (.pair (.bool) (.pair (.slice (.int .u64)) (.pair (.int .i64) (.unit))))) : Option (DenS O103) :=
  bif (decide ((a0.2.1.length : Int) > (1024 : Int))) then
  (some ((5 : Int), ()))
  else bif ((decide (a0.2.2.1 < (-(40000 : Int)))) || (decide (a0.2.2.1 > (40000 : Int)))) then
  (some ((30 : Int), ()))
  else some ((0 : Int), ())
theorem r103 (a0 : Den (.pair (.bool) (.pair (.slice (.int .u64)) (.pair (.int .i64) (.unit))))) :
    run { P := Go.Proofs.Tryd.prog, sums := [], loops := [], globs := G1 } 9 103 Go.Proofs.Tryd.f103 I103 O103 (a0, ()) = t103 a0 := by kernel_rfl
noncomputable def T103 (x : DenS I103) : Option (DenS O103) := t103 x.1
noncomputable def C103 : Cfg := { P := Go.Proofs.Tryd.prog, sums := [], loops := [], globs := G1 }
noncomputable def S103 : Sum := sumOf I103 O103 T103 (DenS.dflt O103)
theorem S103_sound : Sound Go.Proofs.Tryd.prog G1 103 S103 :=
  fn_sound C103 9 103 Go.Proofs.Tryd.f103 mixedOk (by kernel_rfl) (by kernel_rfl) (by kernel_rfl) trivial trivial I103 O103 T103 _ fun x => r103 x.1
/-- vernier/dyad.odd -/
abbrev I100 : Sig := [(true, .pair (.bool) (.pair (.slice (.int .u64)) (.pair (.int .i64) (.unit))))]
abbrev O100 : Sig := [(true, .pair (.bool) (.pair (.slice (.int .u64)) (.pair (.int .i64) (.unit))))]
abbrev P100_5 : Pat := ⟨42, [(4, .one (.v .i64)), (3, .one (.sl (.int .u64))), (1, .one (.ptr 0 0)), (2, .one (.ptr 1 0))], [.raw [.bool, .sl (.int .u64), .v .i64], .raw [.bool, .sl (.int .u64), .v .i64]]⟩
abbrev A100_5 : List (Nat × Shape) := []
abbrev X100_5 : List (Nat × Pat) := [(0, ⟨42, [(4, .one (.v .i64)), (3, .one (.sl (.int .u64))), (1, .one (.ptr 0 0)), (2, .one (.ptr 1 0))], [.raw [.bool, .sl (.int .u64), .v .i64], .raw [.bool, .sl (.int .u64), .v .i64]]⟩)]
abbrev Q100_5 : Option Pat := none
noncomputable def h100_5 (p102 : DenS I102 → Bool) (f102 : DenS I102 → DenS O102) (p92 : DenS I92 → Bool) (f92 : DenS I92 → DenS O92) (p141 : DenS I141 → Bool) (f141 : DenS I141 → DenS O141) {R : Type} (L : Pat.D P100_5 → Option R) (e : OutT X100_5 Q100_5 → Option R) (x : Pat.D P100_5) : Option R :=
  bif ((decide ((0 : Int) ≤ (Vx.quoI Go.IntKind.i64 x.1.1 (64 : Int)))) && (decide ((Vx.quoI Go.IntKind.i64 x.1.1 (64 : Int)) < (x.1.2.1.length : Int)))) then
  (bif ((x.1.2.1.getD (Int.toNat (Vx.quoI Go.IntKind.i64 x.1.1 (64 : Int))) (0 : Int)) == (0 : Int)) then
  ((L (((Go.IntKind.wrap Go.IntKind.i64 (x.1.1 + (64 : Int))), (x.1.2.1, ((), ((), ())))), x.2)))
  else (e (.inl ((x.1.1, (x.1.2.1, ((), ((), ())))), x.2))))
  else none
theorem s100_5 (p102 : DenS I102 → Bool) (f102 : DenS I102 → DenS O102) (p92 : DenS I92 → Bool) (f92 : DenS I92 → DenS O92) (p141 : DenS I141 → Bool) (f141 : DenS I141 → DenS O141) (w100_5 : Pat.D P100_5 → Option (OutT X100_5 Q100_5)) (d : Nat) (R : Type) (L : Pat.D P100_5 → Option R) (e : OutT X100_5 Q100_5 → Option R) (x : Pat.D P100_5) :
    lStep { P := Go.Proofs.Tryd.prog, sums := [(102, ⟨I102, O102, p102, f102⟩), (92, ⟨I92, O92, p92, f92⟩), (141, ⟨I141, O141, p141, f141⟩)], loops := [(100, 5, LoopSpec.of P100_5 A100_5 X100_5 Q100_5 w100_5)], globs := G1 } (d + 2) 100 (bodyOf Go.Proofs.Tryd.f100 5) P100_5 A100_5 X100_5 Q100_5 (R := R) L e x = h100_5 p102 f102 p92 f92 p141 f141 L e x := by kernel_rfl
theorem m100_5 (p102 : DenS I102 → Bool) (f102 : DenS I102 → DenS O102) (p92 : DenS I92 → Bool) (f92 : DenS I92 → DenS O92) (p141 : DenS I141 → Bool) (f141 : DenS I141 → DenS O141) : Par fun L e x => h100_5 p102 f102 p92 f92 p141 f141 L e x := by
  intro A B rel L L' e e' h0 hL he x
  unfold h100_5
  repeat' (first | exact h0 | exact hL _ | exact he _ | apply rel_cond | (apply rel_obind h0; intro _) | (apply rel_obind2 <;> intro _))
noncomputable def t100 (p102 : DenS I102 → Bool) (f102 : DenS I102 → DenS O102) (p92 : DenS I92 → Bool) (f92 : DenS I92 → DenS O92) (p141 : DenS I141 → Bool) (f141 : DenS I141 → DenS O141) (w100_5 : Pat.D P100_5 → Option (OutT X100_5 Q100_5)) (a0 : Den (.pair (.bool) (.pair (.slice (.int .u64)) (.pair (.int .i64) (.unit))))) : Option (DenS O100) :=
  bif (p102 (a0.2.1, ())) then
  (bif (((f102 (a0.2.1, ())).1.length : Int) == (0 : Int)) then
  (some ((false, ([], ((0 : Int), ()))), ()))
  else Vx.obind (w100_5 (((0 : Int), ((f102 (a0.2.1, ())).1, ((), ((), ())))), ((a0.1, a0.2), ((false, ([], ((0 : Int), ()))), ())))) fun y2 =>
  Vx.obind2 y2 (fun y3 =>
  bif ((decide ((0 : Int) ≤ (Vx.quoI Go.IntKind.i64 y3.1.1 (64 : Int)))) && (decide ((Vx.quoI Go.IntKind.i64 y3.1.1 (64 : Int)) < (y3.1.2.1.length : Int)))) then
  (bif (p92 ((y3.1.2.1.getD (Int.toNat (Vx.quoI Go.IntKind.i64 y3.1.1 (64 : Int))) (0 : Int)), ())) then
  (bif (p141 (y3.1.2.1, ((Go.IntKind.wrap Go.IntKind.i64 (y3.1.1 + (f92 ((y3.1.2.1.getD (Int.toNat (Vx.quoI Go.IntKind.i64 y3.1.1 (64 : Int))) (0 : Int)), ())).1)), ()))) then
  (some ((y3.2.1.1, ((f141 (y3.1.2.1, ((Go.IntKind.wrap Go.IntKind.i64 (y3.1.1 + (f92 ((y3.1.2.1.getD (Int.toNat (Vx.quoI Go.IntKind.i64 y3.1.1 (64 : Int))) (0 : Int)), ())).1)), ()))).1, ((Go.IntKind.wrap Go.IntKind.i64 (y3.2.1.2.2.1 + (Go.IntKind.wrap Go.IntKind.i64 (y3.1.1 + (f92 ((y3.1.2.1.getD (Int.toNat (Vx.quoI Go.IntKind.i64 y3.1.1 (64 : Int))) (0 : Int)), ())).1)))), ()))), ()))
  else none)
  else none)
  else none) (fun z3 =>
  none))
  else none
theorem r100 (p102 : DenS I102 → Bool) (f102 : DenS I102 → DenS O102) (p92 : DenS I92 → Bool) (f92 : DenS I92 → DenS O92) (p141 : DenS I141 → Bool) (f141 : DenS I141 → DenS O141) (w100_5 : Pat.D P100_5 → Option (OutT X100_5 Q100_5)) (a0 : Den (.pair (.bool) (.pair (.slice (.int .u64)) (.pair (.int .i64) (.unit))))) :
    run { P := Go.Proofs.Tryd.prog, sums := [(102, ⟨I102, O102, p102, f102⟩), (92, ⟨I92, O92, p92, f92⟩), (141, ⟨I141, O141, p141, f141⟩)], loops := [(100, 5, LoopSpec.of P100_5 A100_5 X100_5 Q100_5 w100_5)], globs := G1 } 9 100 Go.Proofs.Tryd.f100 I100 O100 (a0, ()) = t100 p102 f102 p92 f92 p141 f141 w100_5 a0 := by kernel_rfl
noncomputable def W100_5 : P100_5.D → Option (OutT X100_5 Q100_5) := lfix fun L => h100_5 S102.pre S102.F S92.pre S92.F S141.pre S141.F L some
noncomputable def T100 (x : DenS I100) : Option (DenS O100) := t100 S102.pre S102.F S92.pre S92.F S141.pre S141.F W100_5 x.1
noncomputable def C100 : Cfg := { P := Go.Proofs.Tryd.prog, sums := [(102, S102), (92, S92), (141, S141)], loops := [(100, 5, LoopSpec.of P100_5 A100_5 X100_5 Q100_5 W100_5)], globs := G1 }
noncomputable def S100 : Sum := sumOf I100 O100 T100 (DenS.dflt O100)
theorem S100_sound : Sound Go.Proofs.Tryd.prog G1 100 S100 :=
  fn_sound C100 9 100 Go.Proofs.Tryd.f100 mixedOk (by kernel_rfl) (by kernel_rfl) (by kernel_rfl) ⟨S102_sound, ⟨S92_sound, ⟨S141_sound, trivial⟩⟩⟩ ⟨rfl, fun d => loopOk_of (fun L e x => h100_5 S102.pre S102.F S92.pre S92.F S141.pre S141.F L e x) (m100_5 S102.pre S102.F S92.pre S92.F S141.pre S141.F) (fun R L e x => s100_5 S102.pre S102.F S92.pre S92.F S141.pre S141.F W100_5 d R L e x), trivial⟩ I100 O100 T100 _ fun x => r100 S102.pre S102.F S92.pre S92.F S141.pre S141.F W100_5 x.1
/-- vernier/dyad.answer -/
abbrev I104 : Sig := [(true, .pair (.bool) (.pair (.slice (.int .u64)) (.pair (.int .i64) (.unit))))]
abbrev O104 : Sig := [(true, .pair (.bool) (.pair (.slice (.int .u64)) (.pair (.int .i64) (.unit)))), (false, .int .i64)]
noncomputable def t104 (p100 : DenS I100 → Bool) (f100 : DenS I100 → DenS O100) (a0 : Den (.pair (.bool) (.pair (.slice (.int .u64)) (.pair (.int .i64) (.unit))))) : Option (DenS O104) :=
  bif (p100 ((a0.1, a0.2), ())) then
  (bif (decide (((f100 ((a0.1, a0.2), ())).1.2.1.length : Int) > (1024 : Int))) then
  (some ((false, ([], ((0 : Int), ()))), ((5 : Int), ())))
  else bif ((decide ((f100 ((a0.1, a0.2), ())).1.2.2.1 < (-(40000 : Int)))) || (decide ((f100 ((a0.1, a0.2), ())).1.2.2.1 > (40000 : Int)))) then
  (some ((false, ([], ((0 : Int), ()))), ((30 : Int), ())))
  else some ((f100 ((a0.1, a0.2), ())).1, ((0 : Int), ())))
  else none
theorem r104 (p100 : DenS I100 → Bool) (f100 : DenS I100 → DenS O100) (a0 : Den (.pair (.bool) (.pair (.slice (.int .u64)) (.pair (.int .i64) (.unit))))) :
    run { P := Go.Proofs.Tryd.prog, sums := [(100, ⟨I100, O100, p100, f100⟩)], loops := [], globs := G1 } 9 104 Go.Proofs.Tryd.f104 I104 O104 (a0, ()) = t104 p100 f100 a0 := by kernel_rfl
noncomputable def T104 (x : DenS I104) : Option (DenS O104) := t104 S100.pre S100.F x.1
noncomputable def C104 : Cfg := { P := Go.Proofs.Tryd.prog, sums := [(100, S100)], loops := [], globs := G1 }
noncomputable def S104 : Sum := sumOf I104 O104 T104 (DenS.dflt O104)
theorem S104_sound : Sound Go.Proofs.Tryd.prog G1 104 S104 :=
  fn_sound C104 9 104 Go.Proofs.Tryd.f104 mixedOk (by kernel_rfl) (by kernel_rfl) (by kernel_rfl) ⟨S100_sound, trivial⟩ trivial I104 O104 T104 _ fun x => r104 S100.pre S100.F x.1
/-- vernier/dyad.Canon -/
abbrev I106 : Sig := [(true, .pair (.bool) (.pair (.slice (.int .u64)) (.pair (.int .i64) (.unit))))]
abbrev O106 : Sig := [(true, .pair (.bool) (.pair (.slice (.int .u64)) (.pair (.int .i64) (.unit)))), (false, .int .i64)]
noncomputable def t106 (p103 : DenS I103 → Bool) (f103 : DenS I103 → DenS O103) (p104 : DenS I104 → Bool) (f104 : DenS I104 → DenS O104) (a0 : Den (.pair (.bool) (.pair (.slice (.int .u64)) (.pair (.int .i64) (.unit))))) : Option (DenS O106) :=
  bif (p103 ((a0.1, a0.2), ())) then
  (bif ((f103 ((a0.1, a0.2), ())).1 != (0 : Int)) then
  (some ((false, ([], ((0 : Int), ()))), (f103 ((a0.1, a0.2), ()))))
  else bif (p104 ((a0.1, a0.2), ())) then
  (some (f104 ((a0.1, a0.2), ())))
  else none)
  else none
theorem r106 (p103 : DenS I103 → Bool) (f103 : DenS I103 → DenS O103) (p104 : DenS I104 → Bool) (f104 : DenS I104 → DenS O104) (a0 : Den (.pair (.bool) (.pair (.slice (.int .u64)) (.pair (.int .i64) (.unit))))) :
    run { P := Go.Proofs.Tryd.prog, sums := [(103, ⟨I103, O103, p103, f103⟩), (104, ⟨I104, O104, p104, f104⟩)], loops := [], globs := G1 } 9 106 Go.Proofs.Tryd.f106 I106 O106 (a0, ()) = t106 p103 f103 p104 f104 a0 := by kernel_rfl
noncomputable def T106 (x : DenS I106) : Option (DenS O106) := t106 S103.pre S103.F S104.pre S104.F x.1
noncomputable def C106 : Cfg := { P := Go.Proofs.Tryd.prog, sums := [(103, S103), (104, S104)], loops := [], globs := G1 }
noncomputable def S106 : Sum := sumOf I106 O106 T106 (DenS.dflt O106)
theorem S106_sound : Sound Go.Proofs.Tryd.prog G1 106 S106 :=
  fn_sound C106 9 106 Go.Proofs.Tryd.f106 mixedOk (by kernel_rfl) (by kernel_rfl) (by kernel_rfl) ⟨S103_sound, ⟨S104_sound, trivial⟩⟩ trivial I106 O106 T106 _ fun x => r106 S103.pre S103.F S104.pre S104.F x.1
/-- vernier/round.Exact -/
abbrev I51 : Sig := [(false, .int .i64), (false, .int .i64), (true, .pair (.bool) (.pair (.slice (.int .u64)) (.pair (.int .i64) (.unit))))]
abbrev O51 : Sig := [(false, .int .u64), (false, .int .i64), (false, .int .i64)]
noncomputable def t51 (p105 : DenS I105 → Bool) (f105 : DenS I105 → DenS O105) (p106 : DenS I106 → Bool) (f106 : DenS I106 → DenS O106) (p107 : DenS I107 → Bool) (f107 : DenS I107 → DenS O107) (a0 : Den (.int .i64)) (a1 : Den (.int .i64)) (a2 : Den (.pair (.bool) (.pair (.slice (.int .u64)) (.pair (.int .i64) (.unit))))) : Option (DenS O51) :=
  bif (p105 (a0, (a1, ()))) then
  (bif ((f105 (a0, (a1, ()))).2.1 != (0 : Int)) then
  (some ((0 : Int), ((0 : Int), (f105 (a0, (a1, ()))).2)))
  else bif (p106 ((a2.1, a2.2), ())) then
  (bif ((f106 ((a2.1, a2.2), ())).2.1 != (0 : Int)) then
  (some ((0 : Int), ((0 : Int), (f106 ((a2.1, a2.2), ())).2)))
  else bif (((f106 ((a2.1, a2.2), ())).1.2.1.length : Int) == (0 : Int)) then
  (some ((0 : Int), ((0 : Int), ((0 : Int), ()))))
  else bif (p107 (((f106 ((a2.1, a2.2), ())).1.1, ((f106 ((a2.1, a2.2), ())).1.2.1, ((f106 ((a2.1, a2.2), ())).1.2.2.1, (false, ())))), (a0, ((f105 (a0, (a1, ()))).1, (a1, ()))))) then
  (some ((f107 (((f106 ((a2.1, a2.2), ())).1.1, ((f106 ((a2.1, a2.2), ())).1.2.1, ((f106 ((a2.1, a2.2), ())).1.2.2.1, (false, ())))), (a0, ((f105 (a0, (a1, ()))).1, (a1, ()))))).1, ((f107 (((f106 ((a2.1, a2.2), ())).1.1, ((f106 ((a2.1, a2.2), ())).1.2.1, ((f106 ((a2.1, a2.2), ())).1.2.2.1, (false, ())))), (a0, ((f105 (a0, (a1, ()))).1, (a1, ()))))).2.1, ((0 : Int), ()))))
  else none)
  else none)
  else none
theorem r51 (p105 : DenS I105 → Bool) (f105 : DenS I105 → DenS O105) (p106 : DenS I106 → Bool) (f106 : DenS I106 → DenS O106) (p107 : DenS I107 → Bool) (f107 : DenS I107 → DenS O107) (a0 : Den (.int .i64)) (a1 : Den (.int .i64)) (a2 : Den (.pair (.bool) (.pair (.slice (.int .u64)) (.pair (.int .i64) (.unit))))) :
    run { P := Go.Proofs.Tryd.prog, sums := [(105, ⟨I105, O105, p105, f105⟩), (106, ⟨I106, O106, p106, f106⟩), (107, ⟨I107, O107, p107, f107⟩)], loops := [], globs := G1 } 9 51 Go.Proofs.Tryd.f51 I51 O51 (a0, a1, a2, ()) = t51 p105 f105 p106 f106 p107 f107 a0 a1 a2 := by kernel_rfl
noncomputable def T51 (x : DenS I51) : Option (DenS O51) := t51 S105.pre S105.F S106.pre S106.F S107.pre S107.F x.1 x.2.1 x.2.2.1
noncomputable def C51 : Cfg := { P := Go.Proofs.Tryd.prog, sums := [(105, S105), (106, S106), (107, S107)], loops := [], globs := G1 }
noncomputable def S51 : Sum := sumOf I51 O51 T51 (DenS.dflt O51)
theorem S51_sound : Sound Go.Proofs.Tryd.prog G1 51 S51 :=
  fn_sound C51 9 51 Go.Proofs.Tryd.f51 mixedOk (by kernel_rfl) (by kernel_rfl) (by kernel_rfl) ⟨S105_sound, ⟨S106_sound, ⟨S107_sound, trivial⟩⟩⟩ trivial I51 O51 T51 _ fun x => r51 S105.pre S105.F S106.pre S106.F S107.pre S107.F x.1 x.2.1 x.2.2.1
/-- vernier/order.Scale -/
abbrev I38 : Sig := [(false, .int .i64), (false, .int .i64), (false, .int .u64), (false, .int .i64)]
abbrev O38 : Sig := [(false, .int .u64), (false, .int .i64), (false, .int .i64)]
noncomputable def t38 (p69 : DenS I69 → Bool) (f69 : DenS I69 → DenS O69) (p82 : DenS I82 → Bool) (f82 : DenS I82 → DenS O82) (p53 : DenS I53 → Bool) (f53 : DenS I53 → DenS O53) (p70 : DenS I70 → Bool) (f70 : DenS I70 → DenS O70) (p54 : DenS I54 → Bool) (f54 : DenS I54 → DenS O54) (p40 : DenS I40 → Bool) (f40 : DenS I40 → DenS O40) (p51 : DenS I51 → Bool) (f51 : DenS I51 → DenS O51) (a0 : Den (.int .i64)) (a1 : Den (.int .i64)) (a2 : Den (.int .u64)) (a3 : Den (.int .i64)) : Option (DenS O38) :=
  bif (p69 (a0, ())) then
  (bif ((f69 (a0, ())).2.1 != (0 : Int)) then
  (some ((0 : Int), ((0 : Int), (f69 (a0, ())).2)))
  else bif ((decide (a1 < (0 : Int))) || (decide (a1 > (5 : Int)))) then
  (some ((0 : Int), ((0 : Int), ((3 : Int), ()))))
  else bif (p82 (a0, (a2, ()))) then
  (bif ((f82 (a0, (a2, ()))).2.1 != (0 : Int)) then
  (some ((0 : Int), ((0 : Int), (f82 (a0, (a2, ()))).2)))
  else bif (p53 ((f82 (a0, (a2, ()))).1, ())) then
  (bif (f53 ((f82 (a0, (a2, ()))).1, ())).1 then
  (bif (p70 (a0, ())) then
  (bif (p54 ((f82 (a0, (a2, ()))).1, ((f82 (a0, (a2, ()))).1, ()))) then
  (some ((f70 (a0, ())).1, ((f54 ((f82 (a0, (a2, ()))).1, ((f82 (a0, (a2, ()))).1, ()))).1, ((0 : Int), ()))))
  else none)
  else none)
  else bif (p40 (a0, (a2, ()))) then
  (bif (((f40 (a0, (a2, ()))).2.1 != (0 : Int)) || ((f82 (a0, (a2, ()))).1.2.1 == (0 : Int))) then
  (some (a2, ((0 : Int), ((0 : Int), ()))))
  else bif (p51 (a0, (a1, (((f40 (a0, (a2, ()))).1.1, ((f40 (a0, (a2, ()))).1.2.1, ((Go.IntKind.wrap Go.IntKind.i64 ((f40 (a0, (a2, ()))).1.2.2.1 + (if ((if ((10000 : Int) < a3) then (10000 : Int) else a3) > (-(10000 : Int))) then (if ((10000 : Int) < a3) then (10000 : Int) else a3) else (-(10000 : Int))))), ()))), ())))) then
  (some (f51 (a0, (a1, (((f40 (a0, (a2, ()))).1.1, ((f40 (a0, (a2, ()))).1.2.1, ((Go.IntKind.wrap Go.IntKind.i64 ((f40 (a0, (a2, ()))).1.2.2.1 + (if ((if ((10000 : Int) < a3) then (10000 : Int) else a3) > (-(10000 : Int))) then (if ((10000 : Int) < a3) then (10000 : Int) else a3) else (-(10000 : Int))))), ()))), ())))))
  else none)
  else none)
  else none)
  else none)
  else none
theorem r38 (p69 : DenS I69 → Bool) (f69 : DenS I69 → DenS O69) (p82 : DenS I82 → Bool) (f82 : DenS I82 → DenS O82) (p53 : DenS I53 → Bool) (f53 : DenS I53 → DenS O53) (p70 : DenS I70 → Bool) (f70 : DenS I70 → DenS O70) (p54 : DenS I54 → Bool) (f54 : DenS I54 → DenS O54) (p40 : DenS I40 → Bool) (f40 : DenS I40 → DenS O40) (p51 : DenS I51 → Bool) (f51 : DenS I51 → DenS O51) (a0 : Den (.int .i64)) (a1 : Den (.int .i64)) (a2 : Den (.int .u64)) (a3 : Den (.int .i64)) :
    run { P := Go.Proofs.Tryd.prog, sums := [(69, ⟨I69, O69, p69, f69⟩), (82, ⟨I82, O82, p82, f82⟩), (53, ⟨I53, O53, p53, f53⟩), (70, ⟨I70, O70, p70, f70⟩), (54, ⟨I54, O54, p54, f54⟩), (40, ⟨I40, O40, p40, f40⟩), (51, ⟨I51, O51, p51, f51⟩)], loops := [], globs := G1 } 9 38 Go.Proofs.Tryd.f38 I38 O38 (a0, a1, a2, a3, ()) = t38 p69 f69 p82 f82 p53 f53 p70 f70 p54 f54 p40 f40 p51 f51 a0 a1 a2 a3 := by kernel_rfl
noncomputable def T38 (x : DenS I38) : Option (DenS O38) := t38 S69.pre S69.F S82.pre S82.F S53.pre S53.F S70.pre S70.F S54.pre S54.F S40.pre S40.F S51.pre S51.F x.1 x.2.1 x.2.2.1 x.2.2.2.1
noncomputable def C38 : Cfg := { P := Go.Proofs.Tryd.prog, sums := [(69, S69), (82, S82), (53, S53), (70, S70), (54, S54), (40, S40), (51, S51)], loops := [], globs := G1 }
noncomputable def S38 : Sum := sumOf I38 O38 T38 (DenS.dflt O38)
theorem S38_sound : Sound Go.Proofs.Tryd.prog G1 38 S38 :=
  fn_sound C38 9 38 Go.Proofs.Tryd.f38 mixedOk (by kernel_rfl) (by kernel_rfl) (by kernel_rfl) ⟨S69_sound.more G01, ⟨S82_sound.more G01, ⟨S53_sound.more G01, ⟨S70_sound.more G01, ⟨S54_sound.more G01, ⟨S40_sound, ⟨S51_sound, trivial⟩⟩⟩⟩⟩⟩⟩ trivial I38 O38 T38 _ fun x => r38 S69.pre S69.F S82.pre S82.F S53.pre S53.F S70.pre S70.F S54.pre S54.F S40.pre S40.F S51.pre S51.F x.1 x.2.1 x.2.2.1 x.2.2.2.1
/-- vernier/vernierref07.Refuses -/
abbrev I83 : Sig := [(false, .int .i64), (false, .int .i64), (false, .slice (.int .u64))]
abbrev O83 : Sig := [(false, .int .i64)]
abbrev P83_7 : Pat := ⟨38, [(26, .one (.v .i64)), (25, .one (.sl (.int .u64))), (0, .one (.v .i64)), (27, .one (.v .i64))], []⟩
abbrev A83_7 : List (Nat × Shape) := []
abbrev X83_7 : List (Nat × Pat) := [(0, ⟨38, [], []⟩)]
abbrev Q83_7 : Option Pat := (some ⟨38, [(6, .one (.v .i64))], []⟩)
noncomputable def h83_7 (p131 : DenS I131 → Bool) (f131 : DenS I131 → DenS O131) (p108 : DenS I108 → Bool) (f108 : DenS I108 → DenS O108) {R : Type} (L : Pat.D P83_7 → Option R) (e : OutT X83_7 Q83_7 → Option R) (x : Pat.D P83_7) : Option R :=
  bif (decide (x.1.2.2.2.1 < x.1.1)) then
  (bif ((decide ((0 : Int) ≤ x.1.2.2.2.1)) && (decide (x.1.2.2.2.1 < (x.1.2.1.length : Int)))) then
  (bif (p108 (x.1.2.2.1, ((x.1.2.1.getD (Int.toNat x.1.2.2.2.1) (0 : Int)), ()))) then
  (bif ((f108 (x.1.2.2.1, ((x.1.2.1.getD (Int.toNat x.1.2.2.2.1) (0 : Int)), ()))).1 != (0 : Int)) then
  ((e (.inr ((f108 (x.1.2.2.1, ((x.1.2.1.getD (Int.toNat x.1.2.2.2.1) (0 : Int)), ()))), ()))))
  else (L ((x.1.1, (x.1.2.1, (x.1.2.2.1, ((Go.IntKind.wrap Go.IntKind.i64 (x.1.2.2.2.1 + (1 : Int))), ())))), ())))
  else none)
  else none)
  else (e (.inl ((), ())))
theorem s83_7 (p131 : DenS I131 → Bool) (f131 : DenS I131 → DenS O131) (p108 : DenS I108 → Bool) (f108 : DenS I108 → DenS O108) (w83_7 : Pat.D P83_7 → Option (OutT X83_7 Q83_7)) (d : Nat) (R : Type) (L : Pat.D P83_7 → Option R) (e : OutT X83_7 Q83_7 → Option R) (x : Pat.D P83_7) :
    lStep { P := Go.Proofs.Tryd.prog, sums := [(131, ⟨I131, O131, p131, f131⟩), (108, ⟨I108, O108, p108, f108⟩)], loops := [(83, 7, LoopSpec.of P83_7 A83_7 X83_7 Q83_7 w83_7)], globs := G1 } (d + 2) 83 (bodyOf Go.Proofs.Tryd.f83 7) P83_7 A83_7 X83_7 Q83_7 (R := R) L e x = h83_7 p131 f131 p108 f108 L e x := by kernel_rfl
theorem m83_7 (p131 : DenS I131 → Bool) (f131 : DenS I131 → DenS O131) (p108 : DenS I108 → Bool) (f108 : DenS I108 → DenS O108) : Par fun L e x => h83_7 p131 f131 p108 f108 L e x := by
  intro A B rel L L' e e' h0 hL he x
  unfold h83_7
  repeat' (first | exact h0 | exact hL _ | exact he _ | apply rel_cond | (apply rel_obind h0; intro _) | (apply rel_obind2 <;> intro _))
noncomputable def t83 (p131 : DenS I131 → Bool) (f131 : DenS I131 → DenS O131) (p108 : DenS I108 → Bool) (f108 : DenS I108 → DenS O108) (w83_7 : Pat.D P83_7 → Option (OutT X83_7 Q83_7)) (a0 : Den (.int .i64)) (a1 : Den (.int .i64)) (a2 : Den (.slice (.int .u64))) : Option (DenS O83) :=
  bif (p131 (a0, ())) then
  (bif (!(f131 (a0, ())).2.1) then
  (some ((2 : Int), ()))
  else bif ((decide (a1 < (0 : Int))) || (decide (a1 > (5 : Int)))) then
  (some ((3 : Int), ()))
  else Vx.obind (w83_7 (((a2.length : Int), (a2, (a0, ((0 : Int), ())))), ())) fun y3 =>
  Vx.obind2 y3 (fun y4 =>
  some ((0 : Int), ())) (fun z4 =>
  some z4.1))
  else none
theorem r83 (p131 : DenS I131 → Bool) (f131 : DenS I131 → DenS O131) (p108 : DenS I108 → Bool) (f108 : DenS I108 → DenS O108) (w83_7 : Pat.D P83_7 → Option (OutT X83_7 Q83_7)) (a0 : Den (.int .i64)) (a1 : Den (.int .i64)) (a2 : Den (.slice (.int .u64))) :
    run { P := Go.Proofs.Tryd.prog, sums := [(131, ⟨I131, O131, p131, f131⟩), (108, ⟨I108, O108, p108, f108⟩)], loops := [(83, 7, LoopSpec.of P83_7 A83_7 X83_7 Q83_7 w83_7)], globs := G1 } 9 83 Go.Proofs.Tryd.f83 I83 O83 (a0, a1, a2, ()) = t83 p131 f131 p108 f108 w83_7 a0 a1 a2 := by kernel_rfl
noncomputable def W83_7 : P83_7.D → Option (OutT X83_7 Q83_7) := lfix fun L => h83_7 S131.pre S131.F S108.pre S108.F L some
noncomputable def T83 (x : DenS I83) : Option (DenS O83) := t83 S131.pre S131.F S108.pre S108.F W83_7 x.1 x.2.1 x.2.2.1
noncomputable def C83 : Cfg := { P := Go.Proofs.Tryd.prog, sums := [(131, S131), (108, S108)], loops := [(83, 7, LoopSpec.of P83_7 A83_7 X83_7 Q83_7 W83_7)], globs := G1 }
noncomputable def S83 : Sum := sumOf I83 O83 T83 (DenS.dflt O83)
theorem S83_sound : Sound Go.Proofs.Tryd.prog G1 83 S83 :=
  fn_sound C83 9 83 Go.Proofs.Tryd.f83 mixedOk (by kernel_rfl) (by kernel_rfl) (by kernel_rfl) ⟨S131_sound.more G01, ⟨S108_sound.more G01, trivial⟩⟩ ⟨rfl, fun d => loopOk_of (fun L e x => h83_7 S131.pre S131.F S108.pre S108.F L e x) (m83_7 S131.pre S131.F S108.pre S108.F) (fun R L e x => s83_7 S131.pre S131.F S108.pre S108.F W83_7 d R L e x), trivial⟩ I83 O83 T83 _ fun x => r83 S131.pre S131.F S108.pre S108.F W83_7 x.1 x.2.1 x.2.2.1
/-- vernier/vernierref04.IsInf -/
abbrev I85 : Sig := [(false, .int .i64), (false, .int .u64)]
abbrev O85 : Sig := [(false, .bool)]
noncomputable def t85 (p113 : DenS I113 → Bool) (f113 : DenS I113 → DenS O113) (a0 : Den (.int .i64)) (a1 : Den (.int .u64)) : Option (DenS O85) :=
  bif (p113 (a0, (a1, ()))) then
  (some ((((f113 (a0, (a1, ()))).2.1 == (f113 (a0, (a1, ()))).2.2.2.1) && ((f113 (a0, (a1, ()))).2.2.1 == (0 : Int))), ()))
  else none
theorem r85 (p113 : DenS I113 → Bool) (f113 : DenS I113 → DenS O113) (a0 : Den (.int .i64)) (a1 : Den (.int .u64)) :
    run { P := Go.Proofs.Tryd.prog, sums := [(113, ⟨I113, O113, p113, f113⟩)], loops := [], globs := G1 } 9 85 Go.Proofs.Tryd.f85 I85 O85 (a0, a1, ()) = t85 p113 f113 a0 a1 := by kernel_rfl
noncomputable def T85 (x : DenS I85) : Option (DenS O85) := t85 S113.pre S113.F x.1 x.2.1
noncomputable def C85 : Cfg := { P := Go.Proofs.Tryd.prog, sums := [(113, S113)], loops := [], globs := G1 }
noncomputable def S85 : Sum := sumOf I85 O85 T85 (DenS.dflt O85)
theorem S85_sound : Sound Go.Proofs.Tryd.prog G1 85 S85 :=
  fn_sound C85 9 85 Go.Proofs.Tryd.f85 mixedOk (by kernel_rfl) (by kernel_rfl) (by kernel_rfl) ⟨S113_sound.more G01, trivial⟩ trivial I85 O85 T85 _ fun x => r85 S113.pre S113.F x.1 x.2.1
/-- vernier/vernierref04.IsZero -/
abbrev I86 : Sig := [(false, .int .i64), (false, .int .u64)]
abbrev O86 : Sig := [(false, .bool)]
noncomputable def t86 (p113 : DenS I113 → Bool) (f113 : DenS I113 → DenS O113) (a0 : Den (.int .i64)) (a1 : Den (.int .u64)) : Option (DenS O86) :=
  bif (p113 (a0, (a1, ()))) then
  (some ((((f113 (a0, (a1, ()))).2.1 == (0 : Int)) && ((f113 (a0, (a1, ()))).2.2.1 == (0 : Int))), ()))
  else none
theorem r86 (p113 : DenS I113 → Bool) (f113 : DenS I113 → DenS O113) (a0 : Den (.int .i64)) (a1 : Den (.int .u64)) :
    run { P := Go.Proofs.Tryd.prog, sums := [(113, ⟨I113, O113, p113, f113⟩)], loops := [], globs := G1 } 9 86 Go.Proofs.Tryd.f86 I86 O86 (a0, a1, ()) = t86 p113 f113 a0 a1 := by kernel_rfl
noncomputable def T86 (x : DenS I86) : Option (DenS O86) := t86 S113.pre S113.F x.1 x.2.1
noncomputable def C86 : Cfg := { P := Go.Proofs.Tryd.prog, sums := [(113, S113)], loops := [], globs := G1 }
noncomputable def S86 : Sum := sumOf I86 O86 T86 (DenS.dflt O86)
theorem S86_sound : Sound Go.Proofs.Tryd.prog G1 86 S86 :=
  fn_sound C86 9 86 Go.Proofs.Tryd.f86 mixedOk (by kernel_rfl) (by kernel_rfl) (by kernel_rfl) ⟨S113_sound.more G01, trivial⟩ trivial I86 O86 T86 _ fun x => r86 S113.pre S113.F x.1 x.2.1
/-- vernier/vernierref04.Number -/
abbrev I87 : Sig := [(false, .int .i64), (false, .int .u64)]
abbrev O87 : Sig := [(false, .int .u64), (false, .int .i64)]
noncomputable def t87 (p131 : DenS I131 → Bool) (f131 : DenS I131 → DenS O131) (p113 : DenS I113 → Bool) (f113 : DenS I113 → DenS O113) (a0 : Den (.int .i64)) (a1 : Den (.int .u64)) : Option (DenS O87) :=
  bif (p131 (a0, ())) then
  (bif (p113 (a0, (a1, ()))) then
  (bif ((f113 (a0, (a1, ()))).2.1 == (0 : Int)) then
  (some ((f113 (a0, (a1, ()))).2.2.1, ((Go.IntKind.wrap Go.IntKind.i64 ((Go.IntKind.wrap Go.IntKind.i64 ((f131 (a0, ())).1.2.2.1 - (f131 (a0, ())).1.2.1)) + (1 : Int))), ())))
  else some ((Go.IntKind.wrap Go.IntKind.u64 ((Vx.shlI Go.IntKind.u64 (1 : Int) (Go.IntKind.wrap Go.IntKind.u64 (Go.IntKind.wrap Go.IntKind.i64 ((f131 (a0, ())).1.2.1 - (1 : Int))))) + (f113 (a0, (a1, ()))).2.2.1)), ((Go.IntKind.wrap Go.IntKind.i64 ((Go.IntKind.wrap Go.IntKind.i64 ((Go.IntKind.wrap Go.IntKind.i64 ((Go.IntKind.wrap Go.IntKind.i64 ((Go.IntKind.wrap Go.IntKind.i64 (f113 (a0, (a1, ()))).2.1) - (1 : Int))) + (f131 (a0, ())).1.2.2.1)) - (f131 (a0, ())).1.2.1)) + (1 : Int))), ())))
  else none)
  else none
theorem r87 (p131 : DenS I131 → Bool) (f131 : DenS I131 → DenS O131) (p113 : DenS I113 → Bool) (f113 : DenS I113 → DenS O113) (a0 : Den (.int .i64)) (a1 : Den (.int .u64)) :
    run { P := Go.Proofs.Tryd.prog, sums := [(131, ⟨I131, O131, p131, f131⟩), (113, ⟨I113, O113, p113, f113⟩)], loops := [], globs := G1 } 9 87 Go.Proofs.Tryd.f87 I87 O87 (a0, a1, ()) = t87 p131 f131 p113 f113 a0 a1 := by kernel_rfl
noncomputable def T87 (x : DenS I87) : Option (DenS O87) := t87 S131.pre S131.F S113.pre S113.F x.1 x.2.1
noncomputable def C87 : Cfg := { P := Go.Proofs.Tryd.prog, sums := [(131, S131), (113, S113)], loops := [], globs := G1 }
noncomputable def S87 : Sum := sumOf I87 O87 T87 (DenS.dflt O87)
theorem S87_sound : Sound Go.Proofs.Tryd.prog G1 87 S87 :=
  fn_sound C87 9 87 Go.Proofs.Tryd.f87 mixedOk (by kernel_rfl) (by kernel_rfl) (by kernel_rfl) ⟨S131_sound.more G01, ⟨S113_sound.more G01, trivial⟩⟩ trivial I87 O87 T87 _ fun x => r87 S131.pre S131.F S113.pre S113.F x.1 x.2.1
/-- vernier/vernierref05.Whole -/
abbrev I89 : Sig := [(false, .bool), (false, .slice (.int .u64)), (false, .int .i64)]
abbrev O89 : Sig := [(true, .pair (.bool) (.pair (.slice (.int .u64)) (.pair (.slice (.int .u64)) (.pair (.int .i64) (.unit)))))]
noncomputable def t89 (a0 : Den (.bool)) (a1 : Den (.slice (.int .u64))) (a2 : Den (.int .i64)) : Option (DenS O89) :=
  some ((a0, (a1, (((1 : Int) :: []), (a2, ())))), ())
theorem r89 (a0 : Den (.bool)) (a1 : Den (.slice (.int .u64))) (a2 : Den (.int .i64)) :
    run { P := Go.Proofs.Tryd.prog, sums := [], loops := [], globs := G1 } 9 89 Go.Proofs.Tryd.f89 I89 O89 (a0, a1, a2, ()) = t89 a0 a1 a2 := by kernel_rfl
noncomputable def T89 (x : DenS I89) : Option (DenS O89) := t89 x.1 x.2.1 x.2.2.1
noncomputable def C89 : Cfg := { P := Go.Proofs.Tryd.prog, sums := [], loops := [], globs := G1 }
noncomputable def S89 : Sum := sumOf I89 O89 T89 (DenS.dflt O89)
theorem S89_sound : Sound Go.Proofs.Tryd.prog G1 89 S89 :=
  fn_sound C89 9 89 Go.Proofs.Tryd.f89 mixedOk (by kernel_rfl) (by kernel_rfl) (by kernel_rfl) trivial trivial I89 O89 T89 _ fun x => r89 x.1 x.2.1 x.2.2.1
/-- vernier/vernierref02.size -/
abbrev I163 : Sig := [(false, .slice (.int .u64))]
abbrev O163 : Sig := [(false, .int .i64)]
abbrev P163_2 : Pat := ⟨19, [(0, .one (.sl (.int .u64))), (3, .one (.v .i64))], []⟩
abbrev A163_2 : List (Nat × Shape) := []
abbrev X163_2 : List (Nat × Pat) := [(0, ⟨19, [(3, .one (.v .i64))], []⟩)]
abbrev Q163_2 : Option Pat := none
noncomputable def h163_2 {R : Type} (L : Pat.D P163_2 → Option R) (e : OutT X163_2 Q163_2 → Option R) (x : Pat.D P163_2) : Option R :=
  bif (((decide ((0 : Int) ≤ (Go.IntKind.wrap Go.IntKind.i64 (x.1.2.1 - (1 : Int))))) && (decide ((Go.IntKind.wrap Go.IntKind.i64 (x.1.2.1 - (1 : Int))) < (x.1.1.length : Int)))) || (!(decide (x.1.2.1 > (0 : Int))))) then
  (bif ((decide (x.1.2.1 > (0 : Int))) && ((x.1.1.getD (Int.toNat (Go.IntKind.wrap Go.IntKind.i64 (x.1.2.1 - (1 : Int)))) (0 : Int)) == (0 : Int))) then
  ((L ((x.1.1, ((Go.IntKind.wrap Go.IntKind.i64 (x.1.2.1 - (1 : Int))), ())), ())))
  else (e (.inl (x.1.2, ()))))
  else none
theorem s163_2 (w163_2 : Pat.D P163_2 → Option (OutT X163_2 Q163_2)) (d : Nat) (R : Type) (L : Pat.D P163_2 → Option R) (e : OutT X163_2 Q163_2 → Option R) (x : Pat.D P163_2) :
    lStep { P := Go.Proofs.Tryd.prog, sums := [], loops := [(163, 2, LoopSpec.of P163_2 A163_2 X163_2 Q163_2 w163_2)], globs := G1 } (d + 2) 163 (bodyOf Go.Proofs.Tryd.f163 2) P163_2 A163_2 X163_2 Q163_2 (R := R) L e x = h163_2 L e x := by kernel_rfl
theorem m163_2 : Par fun L e x => h163_2 L e x := by
  intro A B rel L L' e e' h0 hL he x
  unfold h163_2
  repeat' (first | exact h0 | exact hL _ | exact he _ | apply rel_cond | (apply rel_obind h0; intro _) | (apply rel_obind2 <;> intro _))
noncomputable def t163 (w163_2 : Pat.D P163_2 → Option (OutT X163_2 Q163_2)) (a0 : Den (.slice (.int .u64))) : Option (DenS O163) :=
  Vx.obind (w163_2 ((a0, ((a0.length : Int), ())), ())) fun y0 =>
  Vx.obind2 y0 (fun y1 =>
  some y1.1) (fun z1 =>
  none)
theorem r163 (w163_2 : Pat.D P163_2 → Option (OutT X163_2 Q163_2)) (a0 : Den (.slice (.int .u64))) :
    run { P := Go.Proofs.Tryd.prog, sums := [], loops := [(163, 2, LoopSpec.of P163_2 A163_2 X163_2 Q163_2 w163_2)], globs := G1 } 9 163 Go.Proofs.Tryd.f163 I163 O163 (a0, ()) = t163 w163_2 a0 := by kernel_rfl
noncomputable def W163_2 : P163_2.D → Option (OutT X163_2 Q163_2) := lfix fun L => h163_2 L some
noncomputable def T163 (x : DenS I163) : Option (DenS O163) := t163 W163_2 x.1
noncomputable def C163 : Cfg := { P := Go.Proofs.Tryd.prog, sums := [], loops := [(163, 2, LoopSpec.of P163_2 A163_2 X163_2 Q163_2 W163_2)], globs := G1 }
noncomputable def S163 : Sum := sumOf I163 O163 T163 (DenS.dflt O163)
theorem S163_sound : Sound Go.Proofs.Tryd.prog G1 163 S163 :=
  fn_sound C163 9 163 Go.Proofs.Tryd.f163 mixedOk (by kernel_rfl) (by kernel_rfl) (by kernel_rfl) trivial ⟨rfl, fun d => loopOk_of (fun L e x => h163_2 L e x) (m163_2) (fun R L e x => s163_2 W163_2 d R L e x), trivial⟩ I163 O163 T163 _ fun x => r163 W163_2 x.1
/-- vernier/vernierref02.Trim -/
abbrev I133 : Sig := [(false, .slice (.int .u64))]
abbrev O133 : Sig := [(false, .slice (.int .u64))]
noncomputable def t133 (p163 : DenS I163 → Bool) (f163 : DenS I163 → DenS O163) (a0 : Den (.slice (.int .u64))) : Option (DenS O133) :=
  bif (p163 (a0, ())) then
  (bif ((decide ((0 : Int) ≤ (f163 (a0, ())).1)) && (decide (((f163 (a0, ())).1 * (8 : Int)) ≤ (140737488355328 : Int)))) then
  (some (((a0.take (List.replicate (Int.toNat (f163 (a0, ())).1) (0 : Int)).length) ++ ((List.replicate (Int.toNat (f163 (a0, ())).1) (0 : Int)).drop a0.length)), ()))
  else none)
  else none
theorem r133 (p163 : DenS I163 → Bool) (f163 : DenS I163 → DenS O163) (a0 : Den (.slice (.int .u64))) :
    run { P := Go.Proofs.Tryd.prog, sums := [(163, ⟨I163, O163, p163, f163⟩)], loops := [], globs := G1 } 9 133 Go.Proofs.Tryd.f133 I133 O133 (a0, ()) = t133 p163 f163 a0 := by kernel_rfl
noncomputable def T133 (x : DenS I133) : Option (DenS O133) := t133 S163.pre S163.F x.1
noncomputable def C133 : Cfg := { P := Go.Proofs.Tryd.prog, sums := [(163, S163)], loops := [], globs := G1 }
noncomputable def S133 : Sum := sumOf I133 O133 T133 (DenS.dflt O133)
theorem S133_sound : Sound Go.Proofs.Tryd.prog G1 133 S133 :=
  fn_sound C133 9 133 Go.Proofs.Tryd.f133 mixedOk (by kernel_rfl) (by kernel_rfl) (by kernel_rfl) ⟨S163_sound, trivial⟩ trivial I133 O133 T133 _ fun x => r133 S163.pre S163.F x.1
/-- vernier/vernierref02.Len -/
abbrev I138 : Sig := [(false, .slice (.int .u64))]
abbrev O138 : Sig := [(false, .int .i64)]
abbrev P138_6 : Pat := ⟨26, [(5, .one (.v .u64)), (3, .one (.v .i64)), (4, .one (.v .i64))], []⟩
abbrev A138_6 : List (Nat × Shape) := []
abbrev X138_6 : List (Nat × Pat) := [(0, ⟨26, [(3, .one (.v .i64)), (4, .one (.v .i64))], []⟩)]
abbrev Q138_6 : Option Pat := none
noncomputable def h138_6 (p163 : DenS I163 → Bool) (f163 : DenS I163 → DenS O163) {R : Type} (L : Pat.D P138_6 → Option R) (e : OutT X138_6 Q138_6 → Option R) (x : Pat.D P138_6) : Option R :=
  bif (decide (x.1.1 > (0 : Int))) then
  ((L (((Vx.shrI Go.IntKind.u64 x.1.1 (1 : Int)), (x.1.2.1, ((Go.IntKind.wrap Go.IntKind.i64 (x.1.2.2.1 + (1 : Int))), ()))), ())))
  else (e (.inl (x.1.2, ())))
theorem s138_6 (p163 : DenS I163 → Bool) (f163 : DenS I163 → DenS O163) (w138_6 : Pat.D P138_6 → Option (OutT X138_6 Q138_6)) (d : Nat) (R : Type) (L : Pat.D P138_6 → Option R) (e : OutT X138_6 Q138_6 → Option R) (x : Pat.D P138_6) :
    lStep { P := Go.Proofs.Tryd.prog, sums := [(163, ⟨I163, O163, p163, f163⟩)], loops := [(138, 6, LoopSpec.of P138_6 A138_6 X138_6 Q138_6 w138_6)], globs := G1 } (d + 2) 138 (bodyOf Go.Proofs.Tryd.f138 6) P138_6 A138_6 X138_6 Q138_6 (R := R) L e x = h138_6 p163 f163 L e x := by kernel_rfl
theorem m138_6 (p163 : DenS I163 → Bool) (f163 : DenS I163 → DenS O163) : Par fun L e x => h138_6 p163 f163 L e x := by
  intro A B rel L L' e e' h0 hL he x
  unfold h138_6
  repeat' (first | exact h0 | exact hL _ | exact he _ | apply rel_cond | (apply rel_obind h0; intro _) | (apply rel_obind2 <;> intro _))
noncomputable def t138 (p163 : DenS I163 → Bool) (f163 : DenS I163 → DenS O163) (w138_6 : Pat.D P138_6 → Option (OutT X138_6 Q138_6)) (a0 : Den (.slice (.int .u64))) : Option (DenS O138) :=
  bif (p163 (a0, ())) then
  (bif ((f163 (a0, ())).1 == (0 : Int)) then
  (some ((0 : Int), ()))
  else bif ((decide ((0 : Int) ≤ (Go.IntKind.wrap Go.IntKind.i64 ((f163 (a0, ())).1 - (1 : Int))))) && (decide ((Go.IntKind.wrap Go.IntKind.i64 ((f163 (a0, ())).1 - (1 : Int))) < (a0.length : Int)))) then
  (Vx.obind (w138_6 (((a0.getD (Int.toNat (Go.IntKind.wrap Go.IntKind.i64 ((f163 (a0, ())).1 - (1 : Int)))) (0 : Int)), ((f163 (a0, ())).1, ((0 : Int), ()))), ())) fun y3 =>
  Vx.obind2 y3 (fun y4 =>
  some ((Go.IntKind.wrap Go.IntKind.i64 ((Go.IntKind.wrap Go.IntKind.i64 ((64 : Int) * (Go.IntKind.wrap Go.IntKind.i64 (y4.1.1 - (1 : Int))))) + y4.1.2.1)), ())) (fun z4 =>
  none))
  else none)
  else none
theorem r138 (p163 : DenS I163 → Bool) (f163 : DenS I163 → DenS O163) (w138_6 : Pat.D P138_6 → Option (OutT X138_6 Q138_6)) (a0 : Den (.slice (.int .u64))) :
    run { P := Go.Proofs.Tryd.prog, sums := [(163, ⟨I163, O163, p163, f163⟩)], loops := [(138, 6, LoopSpec.of P138_6 A138_6 X138_6 Q138_6 w138_6)], globs := G1 } 9 138 Go.Proofs.Tryd.f138 I138 O138 (a0, ()) = t138 p163 f163 w138_6 a0 := by kernel_rfl
noncomputable def W138_6 : P138_6.D → Option (OutT X138_6 Q138_6) := lfix fun L => h138_6 S163.pre S163.F L some
noncomputable def T138 (x : DenS I138) : Option (DenS O138) := t138 S163.pre S163.F W138_6 x.1
noncomputable def C138 : Cfg := { P := Go.Proofs.Tryd.prog, sums := [(163, S163)], loops := [(138, 6, LoopSpec.of P138_6 A138_6 X138_6 Q138_6 W138_6)], globs := G1 }
noncomputable def S138 : Sum := sumOf I138 O138 T138 (DenS.dflt O138)
theorem S138_sound : Sound Go.Proofs.Tryd.prog G1 138 S138 :=
  fn_sound C138 9 138 Go.Proofs.Tryd.f138 mixedOk (by kernel_rfl) (by kernel_rfl) (by kernel_rfl) ⟨S163_sound, trivial⟩ ⟨rfl, fun d => loopOk_of (fun L e x => h138_6 S163.pre S163.F L e x) (m138_6 S163.pre S163.F) (fun R L e x => s138_6 S163.pre S163.F W138_6 d R L e x), trivial⟩ I138 O138 T138 _ fun x => r138 S163.pre S163.F W138_6 x.1
end Vx
namespace Vx
open Go Go.Proofs
/-- vernier/vernierref02.down -/
abbrev I187 : Sig := [(false, .slice (.int .u64)), (false, .int .i64)]
abbrev O187 : Sig := [(false, .slice (.int .u64))]
abbrev P187_6 : Pat := ⟨74, [(5, .one (.v .i64)), (0, .one (.sl (.int .u64))), (1, .one (.v .i64)), (7, .one (.v .i64)), (6, .one (.own 0))], [.arr (.int .u64)]⟩
abbrev A187_6 : List (Nat × Shape) := []
abbrev X187_6 : List (Nat × Pat) := [(0, ⟨74, [(6, .one (.own 0))], [.arr (.int .u64)]⟩)]
abbrev Q187_6 : Option Pat := none
noncomputable def h187_6 (p138 : DenS I138 → Bool) (f138 : DenS I138 → DenS O138) (p163 : DenS I163 → Bool) (f163 : DenS I163 → DenS O163) (p133 : DenS I133 → Bool) (f133 : DenS I133 → DenS O133) {R : Type} (L : Pat.D P187_6 → Option R) (e : OutT X187_6 Q187_6 → Option R) (x : Pat.D P187_6) : Option R :=
  bif (decide (x.1.2.2.2.1 < (x.2.1.length : Int))) then
  (bif ((decide ((0 : Int) ≤ (Go.IntKind.wrap Go.IntKind.i64 (x.1.2.2.2.1 + (Vx.quoI Go.IntKind.i64 x.1.2.2.1 (64 : Int)))))) && (decide ((Go.IntKind.wrap Go.IntKind.i64 (x.1.2.2.2.1 + (Vx.quoI Go.IntKind.i64 x.1.2.2.1 (64 : Int)))) < (x.1.2.1.length : Int)))) then
  (bif ((decide ((0 : Int) ≤ x.1.2.2.2.1)) && (decide (x.1.2.2.2.1 < (x.2.1.length : Int)))) then
  (bif ((decide ((Int.tmod x.1.2.2.1 (64 : Int)) > (0 : Int))) && (decide ((Go.IntKind.wrap Go.IntKind.i64 ((Go.IntKind.wrap Go.IntKind.i64 (x.1.2.2.2.1 + (Vx.quoI Go.IntKind.i64 x.1.2.2.1 (64 : Int)))) + (1 : Int))) < x.1.1))) then
  (bif ((decide ((0 : Int) ≤ x.1.2.2.2.1)) && (decide (x.1.2.2.2.1 < ((x.2.1.set (Int.toNat x.1.2.2.2.1) (Vx.shrI Go.IntKind.u64 (x.1.2.1.getD (Int.toNat (Go.IntKind.wrap Go.IntKind.i64 (x.1.2.2.2.1 + (Vx.quoI Go.IntKind.i64 x.1.2.2.1 (64 : Int))))) (0 : Int)) (Go.IntKind.wrap Go.IntKind.u64 (Int.tmod x.1.2.2.1 (64 : Int))))).length : Int)))) then
  (bif ((decide ((0 : Int) ≤ (Go.IntKind.wrap Go.IntKind.i64 ((Go.IntKind.wrap Go.IntKind.i64 (x.1.2.2.2.1 + (Vx.quoI Go.IntKind.i64 x.1.2.2.1 (64 : Int)))) + (1 : Int))))) && (decide ((Go.IntKind.wrap Go.IntKind.i64 ((Go.IntKind.wrap Go.IntKind.i64 (x.1.2.2.2.1 + (Vx.quoI Go.IntKind.i64 x.1.2.2.1 (64 : Int)))) + (1 : Int))) < (x.1.2.1.length : Int)))) then
  (bif ((decide ((0 : Int) ≤ x.1.2.2.2.1)) && (decide (x.1.2.2.2.1 < ((x.2.1.set (Int.toNat x.1.2.2.2.1) (Vx.shrI Go.IntKind.u64 (x.1.2.1.getD (Int.toNat (Go.IntKind.wrap Go.IntKind.i64 (x.1.2.2.2.1 + (Vx.quoI Go.IntKind.i64 x.1.2.2.1 (64 : Int))))) (0 : Int)) (Go.IntKind.wrap Go.IntKind.u64 (Int.tmod x.1.2.2.1 (64 : Int))))).length : Int)))) then
  ((L ((x.1.1, (x.1.2.1, (x.1.2.2.1, ((Go.IntKind.wrap Go.IntKind.i64 (x.1.2.2.2.1 + (1 : Int))), ((), ()))))), (((x.2.1.set (Int.toNat x.1.2.2.2.1) (Vx.shrI Go.IntKind.u64 (x.1.2.1.getD (Int.toNat (Go.IntKind.wrap Go.IntKind.i64 (x.1.2.2.2.1 + (Vx.quoI Go.IntKind.i64 x.1.2.2.1 (64 : Int))))) (0 : Int)) (Go.IntKind.wrap Go.IntKind.u64 (Int.tmod x.1.2.2.1 (64 : Int))))).set (Int.toNat x.1.2.2.2.1) (Vx.orI Go.IntKind.u64 ((x.2.1.set (Int.toNat x.1.2.2.2.1) (Vx.shrI Go.IntKind.u64 (x.1.2.1.getD (Int.toNat (Go.IntKind.wrap Go.IntKind.i64 (x.1.2.2.2.1 + (Vx.quoI Go.IntKind.i64 x.1.2.2.1 (64 : Int))))) (0 : Int)) (Go.IntKind.wrap Go.IntKind.u64 (Int.tmod x.1.2.2.1 (64 : Int))))).getD (Int.toNat x.1.2.2.2.1) (0 : Int)) (Vx.shlI Go.IntKind.u64 (x.1.2.1.getD (Int.toNat (Go.IntKind.wrap Go.IntKind.i64 ((Go.IntKind.wrap Go.IntKind.i64 (x.1.2.2.2.1 + (Vx.quoI Go.IntKind.i64 x.1.2.2.1 (64 : Int)))) + (1 : Int)))) (0 : Int)) (Go.IntKind.wrap Go.IntKind.u64 (Go.IntKind.wrap Go.IntKind.i64 ((64 : Int) - (Int.tmod x.1.2.2.1 (64 : Int)))))))), ()))))
  else none)
  else none)
  else none)
  else (L ((x.1.1, (x.1.2.1, (x.1.2.2.1, ((Go.IntKind.wrap Go.IntKind.i64 (x.1.2.2.2.1 + (1 : Int))), ((), ()))))), ((x.2.1.set (Int.toNat x.1.2.2.2.1) (Vx.shrI Go.IntKind.u64 (x.1.2.1.getD (Int.toNat (Go.IntKind.wrap Go.IntKind.i64 (x.1.2.2.2.1 + (Vx.quoI Go.IntKind.i64 x.1.2.2.1 (64 : Int))))) (0 : Int)) (Go.IntKind.wrap Go.IntKind.u64 (Int.tmod x.1.2.2.1 (64 : Int))))), ()))))
  else none)
  else none)
  else (e (.inl (((), ()), x.2)))
theorem s187_6 (p138 : DenS I138 → Bool) (f138 : DenS I138 → DenS O138) (p163 : DenS I163 → Bool) (f163 : DenS I163 → DenS O163) (p133 : DenS I133 → Bool) (f133 : DenS I133 → DenS O133) (w187_6 : Pat.D P187_6 → Option (OutT X187_6 Q187_6)) (d : Nat) (R : Type) (L : Pat.D P187_6 → Option R) (e : OutT X187_6 Q187_6 → Option R) (x : Pat.D P187_6) :
    lStep { P := Go.Proofs.Tryd.prog, sums := [(138, ⟨I138, O138, p138, f138⟩), (163, ⟨I163, O163, p163, f163⟩), (133, ⟨I133, O133, p133, f133⟩)], loops := [(187, 6, LoopSpec.of P187_6 A187_6 X187_6 Q187_6 w187_6)], globs := G1 } (d + 2) 187 (bodyOf Go.Proofs.Tryd.f187 6) P187_6 A187_6 X187_6 Q187_6 (R := R) L e x = h187_6 p138 f138 p163 f163 p133 f133 L e x := by kernel_rfl
theorem m187_6 (p138 : DenS I138 → Bool) (f138 : DenS I138 → DenS O138) (p163 : DenS I163 → Bool) (f163 : DenS I163 → DenS O163) (p133 : DenS I133 → Bool) (f133 : DenS I133 → DenS O133) : Par fun L e x => h187_6 p138 f138 p163 f163 p133 f133 L e x := by
  intro A B rel L L' e e' h0 hL he x
  unfold h187_6
  repeat' (first | exact h0 | exact hL _ | exact he _ | apply rel_cond | (apply rel_obind h0; intro _) | (apply rel_obind2 <;> intro _))
noncomputable def t187 (p138 : DenS I138 → Bool) (f138 : DenS I138 → DenS O138) (p163 : DenS I163 → Bool) (f163 : DenS I163 → DenS O163) (p133 : DenS I133 → Bool) (f133 : DenS I133 → DenS O133) (w187_6 : Pat.D P187_6 → Option (OutT X187_6 Q187_6)) (a0 : Den (.slice (.int .u64))) (a1 : Den (.int .i64)) : Option (DenS O187) :=
  bif (p138 (a0, ())) then
  (bif (decide (a1 ≥ (f138 (a0, ())).1)) then
  (some ([], ()))
  else bif (p163 (a0, ())) then
  (bif ((decide ((0 : Int) ≤ (Go.IntKind.wrap Go.IntKind.i64 ((f163 (a0, ())).1 - (Vx.quoI Go.IntKind.i64 a1 (64 : Int)))))) && (decide (((Go.IntKind.wrap Go.IntKind.i64 ((f163 (a0, ())).1 - (Vx.quoI Go.IntKind.i64 a1 (64 : Int)))) * (8 : Int)) ≤ (140737488355328 : Int)))) then
  (Vx.obind (w187_6 (((f163 (a0, ())).1, (a0, (a1, ((0 : Int), ((), ()))))), ((List.replicate (Int.toNat (Go.IntKind.wrap Go.IntKind.i64 ((f163 (a0, ())).1 - (Vx.quoI Go.IntKind.i64 a1 (64 : Int))))) (0 : Int)), ()))) fun y4 =>
  Vx.obind2 y4 (fun y5 =>
  bif (p133 y5.2) then
  (some (f133 y5.2))
  else none) (fun z5 =>
  none))
  else none)
  else none)
  else none
theorem r187 (p138 : DenS I138 → Bool) (f138 : DenS I138 → DenS O138) (p163 : DenS I163 → Bool) (f163 : DenS I163 → DenS O163) (p133 : DenS I133 → Bool) (f133 : DenS I133 → DenS O133) (w187_6 : Pat.D P187_6 → Option (OutT X187_6 Q187_6)) (a0 : Den (.slice (.int .u64))) (a1 : Den (.int .i64)) :
    run { P := Go.Proofs.Tryd.prog, sums := [(138, ⟨I138, O138, p138, f138⟩), (163, ⟨I163, O163, p163, f163⟩), (133, ⟨I133, O133, p133, f133⟩)], loops := [(187, 6, LoopSpec.of P187_6 A187_6 X187_6 Q187_6 w187_6)], globs := G1 } 9 187 Go.Proofs.Tryd.f187 I187 O187 (a0, a1, ()) = t187 p138 f138 p163 f163 p133 f133 w187_6 a0 a1 := by kernel_rfl
noncomputable def W187_6 : P187_6.D → Option (OutT X187_6 Q187_6) := lfix fun L => h187_6 S138.pre S138.F S163.pre S163.F S133.pre S133.F L some
noncomputable def T187 (x : DenS I187) : Option (DenS O187) := t187 S138.pre S138.F S163.pre S163.F S133.pre S133.F W187_6 x.1 x.2.1
noncomputable def C187 : Cfg := { P := Go.Proofs.Tryd.prog, sums := [(138, S138), (163, S163), (133, S133)], loops := [(187, 6, LoopSpec.of P187_6 A187_6 X187_6 Q187_6 W187_6)], globs := G1 }
noncomputable def S187 : Sum := sumOf I187 O187 T187 (DenS.dflt O187)
theorem S187_sound : Sound Go.Proofs.Tryd.prog G1 187 S187 :=
  fn_sound C187 9 187 Go.Proofs.Tryd.f187 mixedOk (by kernel_rfl) (by kernel_rfl) (by kernel_rfl) ⟨S138_sound, ⟨S163_sound, ⟨S133_sound, trivial⟩⟩⟩ ⟨rfl, fun d => loopOk_of (fun L e x => h187_6 S138.pre S138.F S163.pre S163.F S133.pre S133.F L e x) (m187_6 S138.pre S138.F S163.pre S163.F S133.pre S133.F) (fun R L e x => s187_6 S138.pre S138.F S163.pre S163.F S133.pre S133.F W187_6 d R L e x), trivial⟩ I187 O187 T187 _ fun x => r187 S138.pre S138.F S163.pre S163.F S133.pre S133.F W187_6 x.1 x.2.1
/-- vernier/vernierref02.up -/
abbrev I181 : Sig := [(false, .slice (.int .u64)), (false, .int .i64)]
abbrev O181 : Sig := [(false, .slice (.int .u64))]
abbrev P181_4 : Pat := ⟨64, [(5, .one (.v .i64)), (0, .one (.sl (.int .u64))), (1, .one (.v .i64)), (7, .one (.v .i64)), (6, .one (.own 0))], [.arr (.int .u64)]⟩
abbrev A181_4 : List (Nat × Shape) := []
abbrev X181_4 : List (Nat × Pat) := [(0, ⟨64, [(6, .one (.own 0))], [.arr (.int .u64)]⟩)]
abbrev Q181_4 : Option Pat := none
noncomputable def h181_4 (p163 : DenS I163 → Bool) (f163 : DenS I163 → DenS O163) (p133 : DenS I133 → Bool) (f133 : DenS I133 → DenS O133) {R : Type} (L : Pat.D P181_4 → Option R) (e : OutT X181_4 Q181_4 → Option R) (x : Pat.D P181_4) : Option R :=
  bif (decide (x.1.2.2.2.1 < x.1.1)) then
  (bif ((decide ((0 : Int) ≤ (Go.IntKind.wrap Go.IntKind.i64 (x.1.2.2.2.1 + (Vx.quoI Go.IntKind.i64 x.1.2.2.1 (64 : Int)))))) && (decide ((Go.IntKind.wrap Go.IntKind.i64 (x.1.2.2.2.1 + (Vx.quoI Go.IntKind.i64 x.1.2.2.1 (64 : Int)))) < (x.2.1.length : Int)))) then
  (bif ((decide ((0 : Int) ≤ x.1.2.2.2.1)) && (decide (x.1.2.2.2.1 < (x.1.2.1.length : Int)))) then
  (bif ((decide ((0 : Int) ≤ (Go.IntKind.wrap Go.IntKind.i64 (x.1.2.2.2.1 + (Vx.quoI Go.IntKind.i64 x.1.2.2.1 (64 : Int)))))) && (decide ((Go.IntKind.wrap Go.IntKind.i64 (x.1.2.2.2.1 + (Vx.quoI Go.IntKind.i64 x.1.2.2.1 (64 : Int)))) < (x.2.1.length : Int)))) then
  (bif (decide ((Int.tmod x.1.2.2.1 (64 : Int)) > (0 : Int))) then
  (bif ((decide ((0 : Int) ≤ x.1.2.2.2.1)) && (decide (x.1.2.2.2.1 < (x.1.2.1.length : Int)))) then
  (bif ((decide ((0 : Int) ≤ (Go.IntKind.wrap Go.IntKind.i64 ((Go.IntKind.wrap Go.IntKind.i64 (x.1.2.2.2.1 + (Vx.quoI Go.IntKind.i64 x.1.2.2.1 (64 : Int)))) + (1 : Int))))) && (decide ((Go.IntKind.wrap Go.IntKind.i64 ((Go.IntKind.wrap Go.IntKind.i64 (x.1.2.2.2.1 + (Vx.quoI Go.IntKind.i64 x.1.2.2.1 (64 : Int)))) + (1 : Int))) < ((x.2.1.set (Int.toNat (Go.IntKind.wrap Go.IntKind.i64 (x.1.2.2.2.1 + (Vx.quoI Go.IntKind.i64 x.1.2.2.1 (64 : Int))))) (Vx.orI Go.IntKind.u64 (x.2.1.getD (Int.toNat (Go.IntKind.wrap Go.IntKind.i64 (x.1.2.2.2.1 + (Vx.quoI Go.IntKind.i64 x.1.2.2.1 (64 : Int))))) (0 : Int)) (Vx.shlI Go.IntKind.u64 (x.1.2.1.getD (Int.toNat x.1.2.2.2.1) (0 : Int)) (Go.IntKind.wrap Go.IntKind.u64 (Int.tmod x.1.2.2.1 (64 : Int)))))).length : Int)))) then
  ((L ((x.1.1, (x.1.2.1, (x.1.2.2.1, ((Go.IntKind.wrap Go.IntKind.i64 (x.1.2.2.2.1 + (1 : Int))), ((), ()))))), (((x.2.1.set (Int.toNat (Go.IntKind.wrap Go.IntKind.i64 (x.1.2.2.2.1 + (Vx.quoI Go.IntKind.i64 x.1.2.2.1 (64 : Int))))) (Vx.orI Go.IntKind.u64 (x.2.1.getD (Int.toNat (Go.IntKind.wrap Go.IntKind.i64 (x.1.2.2.2.1 + (Vx.quoI Go.IntKind.i64 x.1.2.2.1 (64 : Int))))) (0 : Int)) (Vx.shlI Go.IntKind.u64 (x.1.2.1.getD (Int.toNat x.1.2.2.2.1) (0 : Int)) (Go.IntKind.wrap Go.IntKind.u64 (Int.tmod x.1.2.2.1 (64 : Int)))))).set (Int.toNat (Go.IntKind.wrap Go.IntKind.i64 ((Go.IntKind.wrap Go.IntKind.i64 (x.1.2.2.2.1 + (Vx.quoI Go.IntKind.i64 x.1.2.2.1 (64 : Int)))) + (1 : Int)))) (Vx.shrI Go.IntKind.u64 (x.1.2.1.getD (Int.toNat x.1.2.2.2.1) (0 : Int)) (Go.IntKind.wrap Go.IntKind.u64 (Go.IntKind.wrap Go.IntKind.i64 ((64 : Int) - (Int.tmod x.1.2.2.1 (64 : Int))))))), ()))))
  else none)
  else none)
  else (L ((x.1.1, (x.1.2.1, (x.1.2.2.1, ((Go.IntKind.wrap Go.IntKind.i64 (x.1.2.2.2.1 + (1 : Int))), ((), ()))))), ((x.2.1.set (Int.toNat (Go.IntKind.wrap Go.IntKind.i64 (x.1.2.2.2.1 + (Vx.quoI Go.IntKind.i64 x.1.2.2.1 (64 : Int))))) (Vx.orI Go.IntKind.u64 (x.2.1.getD (Int.toNat (Go.IntKind.wrap Go.IntKind.i64 (x.1.2.2.2.1 + (Vx.quoI Go.IntKind.i64 x.1.2.2.1 (64 : Int))))) (0 : Int)) (Vx.shlI Go.IntKind.u64 (x.1.2.1.getD (Int.toNat x.1.2.2.2.1) (0 : Int)) (Go.IntKind.wrap Go.IntKind.u64 (Int.tmod x.1.2.2.1 (64 : Int)))))), ()))))
  else none)
  else none)
  else none)
  else (e (.inl (((), ()), x.2)))
theorem s181_4 (p163 : DenS I163 → Bool) (f163 : DenS I163 → DenS O163) (p133 : DenS I133 → Bool) (f133 : DenS I133 → DenS O133) (w181_4 : Pat.D P181_4 → Option (OutT X181_4 Q181_4)) (d : Nat) (R : Type) (L : Pat.D P181_4 → Option R) (e : OutT X181_4 Q181_4 → Option R) (x : Pat.D P181_4) :
    lStep { P := Go.Proofs.Tryd.prog, sums := [(163, ⟨I163, O163, p163, f163⟩), (133, ⟨I133, O133, p133, f133⟩)], loops := [(181, 4, LoopSpec.of P181_4 A181_4 X181_4 Q181_4 w181_4)], globs := G1 } (d + 2) 181 (bodyOf Go.Proofs.Tryd.f181 4) P181_4 A181_4 X181_4 Q181_4 (R := R) L e x = h181_4 p163 f163 p133 f133 L e x := by kernel_rfl
theorem m181_4 (p163 : DenS I163 → Bool) (f163 : DenS I163 → DenS O163) (p133 : DenS I133 → Bool) (f133 : DenS I133 → DenS O133) : Par fun L e x => h181_4 p163 f163 p133 f133 L e x := by
  intro A B rel L L' e e' h0 hL he x
  unfold h181_4
  repeat' (first | exact h0 | exact hL _ | exact he _ | apply rel_cond | (apply rel_obind h0; intro _) | (apply rel_obind2 <;> intro _))
noncomputable def t181 (p163 : DenS I163 → Bool) (f163 : DenS I163 → DenS O163) (p133 : DenS I133 → Bool) (f133 : DenS I133 → DenS O133) (w181_4 : Pat.D P181_4 → Option (OutT X181_4 Q181_4)) (a0 : Den (.slice (.int .u64))) (a1 : Den (.int .i64)) : Option (DenS O181) :=
  bif (p163 (a0, ())) then
  (bif ((decide ((0 : Int) ≤ (Go.IntKind.wrap Go.IntKind.i64 ((Go.IntKind.wrap Go.IntKind.i64 ((f163 (a0, ())).1 + (Vx.quoI Go.IntKind.i64 a1 (64 : Int)))) + (1 : Int))))) && (decide (((Go.IntKind.wrap Go.IntKind.i64 ((Go.IntKind.wrap Go.IntKind.i64 ((f163 (a0, ())).1 + (Vx.quoI Go.IntKind.i64 a1 (64 : Int)))) + (1 : Int))) * (8 : Int)) ≤ (140737488355328 : Int)))) then
  (Vx.obind (w181_4 (((f163 (a0, ())).1, (a0, (a1, ((0 : Int), ((), ()))))), ((List.replicate (Int.toNat (Go.IntKind.wrap Go.IntKind.i64 ((Go.IntKind.wrap Go.IntKind.i64 ((f163 (a0, ())).1 + (Vx.quoI Go.IntKind.i64 a1 (64 : Int)))) + (1 : Int)))) (0 : Int)), ()))) fun y2 =>
  Vx.obind2 y2 (fun y3 =>
  bif (p133 y3.2) then
  (some (f133 y3.2))
  else none) (fun z3 =>
  none))
  else none)
  else none
theorem r181 (p163 : DenS I163 → Bool) (f163 : DenS I163 → DenS O163) (p133 : DenS I133 → Bool) (f133 : DenS I133 → DenS O133) (w181_4 : Pat.D P181_4 → Option (OutT X181_4 Q181_4)) (a0 : Den (.slice (.int .u64))) (a1 : Den (.int .i64)) :
    run { P := Go.Proofs.Tryd.prog, sums := [(163, ⟨I163, O163, p163, f163⟩), (133, ⟨I133, O133, p133, f133⟩)], loops := [(181, 4, LoopSpec.of P181_4 A181_4 X181_4 Q181_4 w181_4)], globs := G1 } 9 181 Go.Proofs.Tryd.f181 I181 O181 (a0, a1, ()) = t181 p163 f163 p133 f133 w181_4 a0 a1 := by kernel_rfl
noncomputable def W181_4 : P181_4.D → Option (OutT X181_4 Q181_4) := lfix fun L => h181_4 S163.pre S163.F S133.pre S133.F L some
noncomputable def T181 (x : DenS I181) : Option (DenS O181) := t181 S163.pre S163.F S133.pre S133.F W181_4 x.1 x.2.1
noncomputable def C181 : Cfg := { P := Go.Proofs.Tryd.prog, sums := [(163, S163), (133, S133)], loops := [(181, 4, LoopSpec.of P181_4 A181_4 X181_4 Q181_4 W181_4)], globs := G1 }
noncomputable def S181 : Sum := sumOf I181 O181 T181 (DenS.dflt O181)
theorem S181_sound : Sound Go.Proofs.Tryd.prog G1 181 S181 :=
  fn_sound C181 9 181 Go.Proofs.Tryd.f181 mixedOk (by kernel_rfl) (by kernel_rfl) (by kernel_rfl) ⟨S163_sound, ⟨S133_sound, trivial⟩⟩ ⟨rfl, fun d => loopOk_of (fun L e x => h181_4 S163.pre S163.F S133.pre S133.F L e x) (m181_4 S163.pre S163.F S133.pre S133.F) (fun R L e x => s181_4 S163.pre S163.F S133.pre S133.F W181_4 d R L e x), trivial⟩ I181 O181 T181 _ fun x => r181 S163.pre S163.F S133.pre S133.F W181_4 x.1 x.2.1
/-- vernier/vernierref02.Bit -/
abbrev I167 : Sig := [(false, .slice (.int .u64)), (false, .int .i64)]
abbrev O167 : Sig := [(false, .int .u64)]
noncomputable def t167 (a0 : Den (.slice (.int .u64))) (a1 : Den (.int .i64)) : Option (DenS O167) :=
  bif ((decide (a1 < (0 : Int))) || (decide ((Vx.quoI Go.IntKind.i64 a1 (64 : Int)) ≥ (a0.length : Int)))) then
  (some ((0 : Int), ()))
  else bif ((decide ((0 : Int) ≤ (Vx.quoI Go.IntKind.i64 a1 (64 : Int)))) && (decide ((Vx.quoI Go.IntKind.i64 a1 (64 : Int)) < (a0.length : Int)))) then
  (some ((Vx.andI Go.IntKind.u64 (Vx.shrI Go.IntKind.u64 (a0.getD (Int.toNat (Vx.quoI Go.IntKind.i64 a1 (64 : Int))) (0 : Int)) (Go.IntKind.wrap Go.IntKind.u64 (Int.tmod a1 (64 : Int)))) (1 : Int)), ()))
  else none
theorem r167 (a0 : Den (.slice (.int .u64))) (a1 : Den (.int .i64)) :
    run { P := Go.Proofs.Tryd.prog, sums := [], loops := [], globs := G1 } 9 167 Go.Proofs.Tryd.f167 I167 O167 (a0, a1, ()) = t167 a0 a1 := by kernel_rfl
noncomputable def T167 (x : DenS I167) : Option (DenS O167) := t167 x.1 x.2.1
noncomputable def C167 : Cfg := { P := Go.Proofs.Tryd.prog, sums := [], loops := [], globs := G1 }
noncomputable def S167 : Sum := sumOf I167 O167 T167 (DenS.dflt O167)
theorem S167_sound : Sound Go.Proofs.Tryd.prog G1 167 S167 :=
  fn_sound C167 9 167 Go.Proofs.Tryd.f167 mixedOk (by kernel_rfl) (by kernel_rfl) (by kernel_rfl) trivial trivial I167 O167 T167 _ fun x => r167 x.1 x.2.1
/-- vernier/vernierref02.at -/
abbrev I183 : Sig := [(false, .slice (.int .u64)), (false, .int .i64)]
abbrev O183 : Sig := [(false, .int .u64)]
noncomputable def t183 (a0 : Den (.slice (.int .u64))) (a1 : Den (.int .i64)) : Option (DenS O183) :=
  bif (decide (a1 < (a0.length : Int))) then
  (bif ((decide ((0 : Int) ≤ a1)) && (decide (a1 < (a0.length : Int)))) then
  (some ((a0.getD (Int.toNat a1) (0 : Int)), ()))
  else none)
  else some ((0 : Int), ())
theorem r183 (a0 : Den (.slice (.int .u64))) (a1 : Den (.int .i64)) :
    run { P := Go.Proofs.Tryd.prog, sums := [], loops := [], globs := G1 } 9 183 Go.Proofs.Tryd.f183 I183 O183 (a0, a1, ()) = t183 a0 a1 := by kernel_rfl
noncomputable def T183 (x : DenS I183) : Option (DenS O183) := t183 x.1 x.2.1
noncomputable def C183 : Cfg := { P := Go.Proofs.Tryd.prog, sums := [], loops := [], globs := G1 }
noncomputable def S183 : Sum := sumOf I183 O183 T183 (DenS.dflt O183)
theorem S183_sound : Sound Go.Proofs.Tryd.prog G1 183 S183 :=
  fn_sound C183 9 183 Go.Proofs.Tryd.f183 mixedOk (by kernel_rfl) (by kernel_rfl) (by kernel_rfl) trivial trivial I183 O183 T183 _ fun x => r183 x.1 x.2.1
/-- vernier/vernierref02.Add -/
abbrev I168 : Sig := [(false, .slice (.int .u64)), (false, .slice (.int .u64))]
abbrev O168 : Sig := [(false, .slice (.int .u64))]
abbrev P168_7 : Pat := ⟨57, [(0, .one (.sl (.int .u64))), (1, .one (.sl (.int .u64))), (8, .one (.v .i64)), (5, .one (.v .i64)), (7, .one (.v .u64)), (6, .one (.own 0))], [.arr (.int .u64)]⟩
abbrev A168_7 : List (Nat × Shape) := []
abbrev X168_7 : List (Nat × Pat) := [(0, ⟨57, [(5, .one (.v .i64)), (7, .one (.v .u64)), (6, .one (.own 0))], [.arr (.int .u64)]⟩)]
abbrev Q168_7 : Option Pat := none
noncomputable def h168_7 (p163 : DenS I163 → Bool) (f163 : DenS I163 → DenS O163) (p183 : DenS I183 → Bool) (f183 : DenS I183 → DenS O183) (p133 : DenS I133 → Bool) (f133 : DenS I133 → DenS O133) {R : Type} (L : Pat.D P168_7 → Option R) (e : OutT X168_7 Q168_7 → Option R) (x : Pat.D P168_7) : Option R :=
  bif (decide (x.1.2.2.1 < x.1.2.2.2.1)) then
  (bif (p183 (x.1.1, (x.1.2.2.1, ()))) then
  (bif (p183 (x.1.2.1, (x.1.2.2.1, ()))) then
  (bif ((decide ((Go.IntKind.wrap Go.IntKind.u64 ((f183 (x.1.1, (x.1.2.2.1, ()))).1 + (f183 (x.1.2.1, (x.1.2.2.1, ()))).1)) < (f183 (x.1.1, (x.1.2.2.1, ()))).1)) || (decide ((Go.IntKind.wrap Go.IntKind.u64 ((Go.IntKind.wrap Go.IntKind.u64 ((f183 (x.1.1, (x.1.2.2.1, ()))).1 + (f183 (x.1.2.1, (x.1.2.2.1, ()))).1)) + x.1.2.2.2.2.1)) < (Go.IntKind.wrap Go.IntKind.u64 ((f183 (x.1.1, (x.1.2.2.1, ()))).1 + (f183 (x.1.2.1, (x.1.2.2.1, ()))).1))))) then
  (bif ((decide ((0 : Int) ≤ x.1.2.2.1)) && (decide (x.1.2.2.1 < (x.2.1.length : Int)))) then
  ((L ((x.1.1, (x.1.2.1, ((Go.IntKind.wrap Go.IntKind.i64 (x.1.2.2.1 + (1 : Int))), (x.1.2.2.2.1, ((1 : Int), ((), ())))))), ((x.2.1.set (Int.toNat x.1.2.2.1) (Go.IntKind.wrap Go.IntKind.u64 ((Go.IntKind.wrap Go.IntKind.u64 ((f183 (x.1.1, (x.1.2.2.1, ()))).1 + (f183 (x.1.2.1, (x.1.2.2.1, ()))).1)) + x.1.2.2.2.2.1))), ()))))
  else none)
  else bif ((decide ((0 : Int) ≤ x.1.2.2.1)) && (decide (x.1.2.2.1 < (x.2.1.length : Int)))) then
  ((L ((x.1.1, (x.1.2.1, ((Go.IntKind.wrap Go.IntKind.i64 (x.1.2.2.1 + (1 : Int))), (x.1.2.2.2.1, ((0 : Int), ((), ())))))), ((x.2.1.set (Int.toNat x.1.2.2.1) (Go.IntKind.wrap Go.IntKind.u64 ((Go.IntKind.wrap Go.IntKind.u64 ((f183 (x.1.1, (x.1.2.2.1, ()))).1 + (f183 (x.1.2.1, (x.1.2.2.1, ()))).1)) + x.1.2.2.2.2.1))), ()))))
  else none)
  else none)
  else none)
  else (e (.inl ((x.1.2.2.2.1, (x.1.2.2.2.2.1, ((), ()))), x.2)))
theorem s168_7 (p163 : DenS I163 → Bool) (f163 : DenS I163 → DenS O163) (p183 : DenS I183 → Bool) (f183 : DenS I183 → DenS O183) (p133 : DenS I133 → Bool) (f133 : DenS I133 → DenS O133) (w168_7 : Pat.D P168_7 → Option (OutT X168_7 Q168_7)) (d : Nat) (R : Type) (L : Pat.D P168_7 → Option R) (e : OutT X168_7 Q168_7 → Option R) (x : Pat.D P168_7) :
    lStep { P := Go.Proofs.Tryd.prog, sums := [(163, ⟨I163, O163, p163, f163⟩), (183, ⟨I183, O183, p183, f183⟩), (133, ⟨I133, O133, p133, f133⟩)], loops := [(168, 7, LoopSpec.of P168_7 A168_7 X168_7 Q168_7 w168_7)], globs := G1 } (d + 2) 168 (bodyOf Go.Proofs.Tryd.f168 7) P168_7 A168_7 X168_7 Q168_7 (R := R) L e x = h168_7 p163 f163 p183 f183 p133 f133 L e x := by kernel_rfl
theorem m168_7 (p163 : DenS I163 → Bool) (f163 : DenS I163 → DenS O163) (p183 : DenS I183 → Bool) (f183 : DenS I183 → DenS O183) (p133 : DenS I133 → Bool) (f133 : DenS I133 → DenS O133) : Par fun L e x => h168_7 p163 f163 p183 f183 p133 f133 L e x := by
  intro A B rel L L' e e' h0 hL he x
  unfold h168_7
  repeat' (first | exact h0 | exact hL _ | exact he _ | apply rel_cond | (apply rel_obind h0; intro _) | (apply rel_obind2 <;> intro _))
noncomputable def t168 (p163 : DenS I163 → Bool) (f163 : DenS I163 → DenS O163) (p183 : DenS I183 → Bool) (f183 : DenS I183 → DenS O183) (p133 : DenS I133 → Bool) (f133 : DenS I133 → DenS O133) (w168_7 : Pat.D P168_7 → Option (OutT X168_7 Q168_7)) (a0 : Den (.slice (.int .u64))) (a1 : Den (.slice (.int .u64))) : Option (DenS O168) :=
  bif (p163 (a0, ())) then
  (bif (p163 (a1, ())) then
  (bif (decide ((f163 (a1, ())).1 > (f163 (a0, ())).1)) then
  (bif (p163 (a1, ())) then
  (bif ((decide ((0 : Int) ≤ (Go.IntKind.wrap Go.IntKind.i64 ((f163 (a1, ())).1 + (1 : Int))))) && (decide (((Go.IntKind.wrap Go.IntKind.i64 ((f163 (a1, ())).1 + (1 : Int))) * (8 : Int)) ≤ (140737488355328 : Int)))) then
  (Vx.obind (w168_7 ((a0, (a1, ((0 : Int), ((f163 (a1, ())).1, ((0 : Int), ((), ())))))), ((List.replicate (Int.toNat (Go.IntKind.wrap Go.IntKind.i64 ((f163 (a1, ())).1 + (1 : Int)))) (0 : Int)), ()))) fun y5 =>
  Vx.obind2 y5 (fun y6 =>
  bif ((decide ((0 : Int) ≤ y6.1.1)) && (decide (y6.1.1 < (y6.2.1.length : Int)))) then
  (bif (p133 ((y6.2.1.set (Int.toNat y6.1.1) y6.1.2.1), ())) then
  (some (f133 ((y6.2.1.set (Int.toNat y6.1.1) y6.1.2.1), ())))
  else none)
  else none) (fun z6 =>
  none))
  else none)
  else none)
  else bif ((decide ((0 : Int) ≤ (Go.IntKind.wrap Go.IntKind.i64 ((f163 (a0, ())).1 + (1 : Int))))) && (decide (((Go.IntKind.wrap Go.IntKind.i64 ((f163 (a0, ())).1 + (1 : Int))) * (8 : Int)) ≤ (140737488355328 : Int)))) then
  (Vx.obind (w168_7 ((a0, (a1, ((0 : Int), ((f163 (a0, ())).1, ((0 : Int), ((), ())))))), ((List.replicate (Int.toNat (Go.IntKind.wrap Go.IntKind.i64 ((f163 (a0, ())).1 + (1 : Int)))) (0 : Int)), ()))) fun y4 =>
  Vx.obind2 y4 (fun y5 =>
  bif ((decide ((0 : Int) ≤ y5.1.1)) && (decide (y5.1.1 < (y5.2.1.length : Int)))) then
  (bif (p133 ((y5.2.1.set (Int.toNat y5.1.1) y5.1.2.1), ())) then
  (some (f133 ((y5.2.1.set (Int.toNat y5.1.1) y5.1.2.1), ())))
  else none)
  else none) (fun z5 =>
  none))
  else none)
  else none)
  else none
theorem r168 (p163 : DenS I163 → Bool) (f163 : DenS I163 → DenS O163) (p183 : DenS I183 → Bool) (f183 : DenS I183 → DenS O183) (p133 : DenS I133 → Bool) (f133 : DenS I133 → DenS O133) (w168_7 : Pat.D P168_7 → Option (OutT X168_7 Q168_7)) (a0 : Den (.slice (.int .u64))) (a1 : Den (.slice (.int .u64))) :
    run { P := Go.Proofs.Tryd.prog, sums := [(163, ⟨I163, O163, p163, f163⟩), (183, ⟨I183, O183, p183, f183⟩), (133, ⟨I133, O133, p133, f133⟩)], loops := [(168, 7, LoopSpec.of P168_7 A168_7 X168_7 Q168_7 w168_7)], globs := G1 } 9 168 Go.Proofs.Tryd.f168 I168 O168 (a0, a1, ()) = t168 p163 f163 p183 f183 p133 f133 w168_7 a0 a1 := by kernel_rfl
noncomputable def W168_7 : P168_7.D → Option (OutT X168_7 Q168_7) := lfix fun L => h168_7 S163.pre S163.F S183.pre S183.F S133.pre S133.F L some
noncomputable def T168 (x : DenS I168) : Option (DenS O168) := t168 S163.pre S163.F S183.pre S183.F S133.pre S133.F W168_7 x.1 x.2.1
noncomputable def C168 : Cfg := { P := Go.Proofs.Tryd.prog, sums := [(163, S163), (183, S183), (133, S133)], loops := [(168, 7, LoopSpec.of P168_7 A168_7 X168_7 Q168_7 W168_7)], globs := G1 }
noncomputable def S168 : Sum := sumOf I168 O168 T168 (DenS.dflt O168)
theorem S168_sound : Sound Go.Proofs.Tryd.prog G1 168 S168 :=
  fn_sound C168 9 168 Go.Proofs.Tryd.f168 mixedOk (by kernel_rfl) (by kernel_rfl) (by kernel_rfl) ⟨S163_sound, ⟨S183_sound, ⟨S133_sound, trivial⟩⟩⟩ ⟨rfl, fun d => loopOk_of (fun L e x => h168_7 S163.pre S163.F S183.pre S183.F S133.pre S133.F L e x) (m168_7 S163.pre S163.F S183.pre S183.F S133.pre S133.F) (fun R L e x => s168_7 S163.pre S163.F S183.pre S183.F S133.pre S133.F W168_7 d R L e x), trivial⟩ I168 O168 T168 _ fun x => r168 S163.pre S163.F S183.pre S183.F S133.pre S133.F W168_7 x.1 x.2.1
/-- vernier/vernierref02.Cmp -/
abbrev I166 : Sig := [(false, .slice (.int .u64)), (false, .slice (.int .u64))]
abbrev O166 : Sig := [(false, .int .i64)]
abbrev P166_8 : Pat := ⟨42, [(0, .one (.sl (.int .u64))), (1, .one (.sl (.int .u64))), (7, .one (.v .i64))], []⟩
abbrev A166_8 : List (Nat × Shape) := []
abbrev X166_8 : List (Nat × Pat) := [(0, ⟨42, [], []⟩)]
abbrev Q166_8 : Option Pat := (some ⟨42, [(4, .one (.v .i64))], []⟩)
noncomputable def h166_8 (p163 : DenS I163 → Bool) (f163 : DenS I163 → DenS O163) {R : Type} (L : Pat.D P166_8 → Option R) (e : OutT X166_8 Q166_8 → Option R) (x : Pat.D P166_8) : Option R :=
  bif (decide (x.1.2.2.1 ≥ (0 : Int))) then
  (bif ((decide ((0 : Int) ≤ x.1.2.2.1)) && (decide (x.1.2.2.1 < (x.1.1.length : Int)))) then
  (bif ((decide ((0 : Int) ≤ x.1.2.2.1)) && (decide (x.1.2.2.1 < (x.1.2.1.length : Int)))) then
  (bif (decide ((x.1.1.getD (Int.toNat x.1.2.2.1) (0 : Int)) < (x.1.2.1.getD (Int.toNat x.1.2.2.1) (0 : Int)))) then
  ((e (.inr (((-(1 : Int)), ()), ()))))
  else bif ((decide ((0 : Int) ≤ x.1.2.2.1)) && (decide (x.1.2.2.1 < (x.1.1.length : Int)))) then
  (bif ((decide ((0 : Int) ≤ x.1.2.2.1)) && (decide (x.1.2.2.1 < (x.1.2.1.length : Int)))) then
  (bif (decide ((x.1.1.getD (Int.toNat x.1.2.2.1) (0 : Int)) > (x.1.2.1.getD (Int.toNat x.1.2.2.1) (0 : Int)))) then
  ((e (.inr (((1 : Int), ()), ()))))
  else (L ((x.1.1, (x.1.2.1, ((Go.IntKind.wrap Go.IntKind.i64 (x.1.2.2.1 - (1 : Int))), ()))), ())))
  else none)
  else none)
  else none)
  else none)
  else (e (.inl ((), ())))
theorem s166_8 (p163 : DenS I163 → Bool) (f163 : DenS I163 → DenS O163) (w166_8 : Pat.D P166_8 → Option (OutT X166_8 Q166_8)) (d : Nat) (R : Type) (L : Pat.D P166_8 → Option R) (e : OutT X166_8 Q166_8 → Option R) (x : Pat.D P166_8) :
    lStep { P := Go.Proofs.Tryd.prog, sums := [(163, ⟨I163, O163, p163, f163⟩)], loops := [(166, 8, LoopSpec.of P166_8 A166_8 X166_8 Q166_8 w166_8)], globs := G1 } (d + 2) 166 (bodyOf Go.Proofs.Tryd.f166 8) P166_8 A166_8 X166_8 Q166_8 (R := R) L e x = h166_8 p163 f163 L e x := by kernel_rfl
theorem m166_8 (p163 : DenS I163 → Bool) (f163 : DenS I163 → DenS O163) : Par fun L e x => h166_8 p163 f163 L e x := by
  intro A B rel L L' e e' h0 hL he x
  unfold h166_8
  repeat' (first | exact h0 | exact hL _ | exact he _ | apply rel_cond | (apply rel_obind h0; intro _) | (apply rel_obind2 <;> intro _))
noncomputable def t166 (p163 : DenS I163 → Bool) (f163 : DenS I163 → DenS O163) (w166_8 : Pat.D P166_8 → Option (OutT X166_8 Q166_8)) (a0 : Den (.slice (.int .u64))) (a1 : Den (.slice (.int .u64))) : Option (DenS O166) :=
  bif (p163 (a0, ())) then
  (bif (p163 (a1, ())) then
  (bif ((f163 (a0, ())).1 != (f163 (a1, ())).1) then
  (bif (decide ((f163 (a0, ())).1 < (f163 (a1, ())).1)) then
  (some ((-(1 : Int)), ()))
  else some ((1 : Int), ()))
  else Vx.obind (w166_8 ((a0, (a1, ((Go.IntKind.wrap Go.IntKind.i64 ((f163 (a1, ())).1 - (1 : Int))), ()))), ())) fun y3 =>
  Vx.obind2 y3 (fun y4 =>
  some ((0 : Int), ())) (fun z4 =>
  some z4.1))
  else none)
  else none
theorem r166 (p163 : DenS I163 → Bool) (f163 : DenS I163 → DenS O163) (w166_8 : Pat.D P166_8 → Option (OutT X166_8 Q166_8)) (a0 : Den (.slice (.int .u64))) (a1 : Den (.slice (.int .u64))) :
    run { P := Go.Proofs.Tryd.prog, sums := [(163, ⟨I163, O163, p163, f163⟩)], loops := [(166, 8, LoopSpec.of P166_8 A166_8 X166_8 Q166_8 w166_8)], globs := G1 } 9 166 Go.Proofs.Tryd.f166 I166 O166 (a0, a1, ()) = t166 p163 f163 w166_8 a0 a1 := by kernel_rfl
noncomputable def W166_8 : P166_8.D → Option (OutT X166_8 Q166_8) := lfix fun L => h166_8 S163.pre S163.F L some
noncomputable def T166 (x : DenS I166) : Option (DenS O166) := t166 S163.pre S163.F W166_8 x.1 x.2.1
noncomputable def C166 : Cfg := { P := Go.Proofs.Tryd.prog, sums := [(163, S163)], loops := [(166, 8, LoopSpec.of P166_8 A166_8 X166_8 Q166_8 W166_8)], globs := G1 }
noncomputable def S166 : Sum := sumOf I166 O166 T166 (DenS.dflt O166)
theorem S166_sound : Sound Go.Proofs.Tryd.prog G1 166 S166 :=
  fn_sound C166 9 166 Go.Proofs.Tryd.f166 mixedOk (by kernel_rfl) (by kernel_rfl) (by kernel_rfl) ⟨S163_sound, trivial⟩ ⟨rfl, fun d => loopOk_of (fun L e x => h166_8 S163.pre S163.F L e x) (m166_8 S163.pre S163.F) (fun R L e x => s166_8 S163.pre S163.F W166_8 d R L e x), trivial⟩ I166 O166 T166 _ fun x => r166 S163.pre S163.F W166_8 x.1 x.2.1
/-- vernier/vernierref02.less -/
abbrev I188 : Sig := [(false, .slice (.int .u64)), (false, .slice (.int .u64))]
abbrev O188 : Sig := [(false, .slice (.int .u64))]
abbrev P188_5 : Pat := ⟨49, [(5, .one (.v .i64)), (0, .one (.sl (.int .u64))), (1, .one (.sl (.int .u64))), (7, .one (.v .u64)), (8, .one (.v .i64)), (6, .one (.own 0))], [.arr (.int .u64)]⟩
abbrev A188_5 : List (Nat × Shape) := []
abbrev X188_5 : List (Nat × Pat) := [(0, ⟨49, [(6, .one (.own 0))], [.arr (.int .u64)]⟩)]
abbrev Q188_5 : Option Pat := none
noncomputable def h188_5 (p163 : DenS I163 → Bool) (f163 : DenS I163 → DenS O163) (p183 : DenS I183 → Bool) (f183 : DenS I183 → DenS O183) (p133 : DenS I133 → Bool) (f133 : DenS I133 → DenS O133) {R : Type} (L : Pat.D P188_5 → Option R) (e : OutT X188_5 Q188_5 → Option R) (x : Pat.D P188_5) : Option R :=
  bif (decide (x.1.2.2.2.2.1 < x.1.1)) then
  (bif ((decide ((0 : Int) ≤ x.1.2.2.2.2.1)) && (decide (x.1.2.2.2.2.1 < (x.1.2.1.length : Int)))) then
  (bif (p183 (x.1.2.2.1, (x.1.2.2.2.2.1, ()))) then
  (bif ((decide ((0 : Int) ≤ x.1.2.2.2.2.1)) && (decide (x.1.2.2.2.2.1 < (x.2.1.length : Int)))) then
  (bif ((decide ((x.1.2.1.getD (Int.toNat x.1.2.2.2.2.1) (0 : Int)) < (f183 (x.1.2.2.1, (x.1.2.2.2.2.1, ()))).1)) || (((x.1.2.1.getD (Int.toNat x.1.2.2.2.2.1) (0 : Int)) == (f183 (x.1.2.2.1, (x.1.2.2.2.2.1, ()))).1) && (x.1.2.2.2.1 == (1 : Int)))) then
  ((L ((x.1.1, (x.1.2.1, (x.1.2.2.1, ((1 : Int), ((Go.IntKind.wrap Go.IntKind.i64 (x.1.2.2.2.2.1 + (1 : Int))), ((), ())))))), ((x.2.1.set (Int.toNat x.1.2.2.2.2.1) (Go.IntKind.wrap Go.IntKind.u64 ((Go.IntKind.wrap Go.IntKind.u64 ((x.1.2.1.getD (Int.toNat x.1.2.2.2.2.1) (0 : Int)) - (f183 (x.1.2.2.1, (x.1.2.2.2.2.1, ()))).1)) - x.1.2.2.2.1))), ()))))
  else (L ((x.1.1, (x.1.2.1, (x.1.2.2.1, ((0 : Int), ((Go.IntKind.wrap Go.IntKind.i64 (x.1.2.2.2.2.1 + (1 : Int))), ((), ())))))), ((x.2.1.set (Int.toNat x.1.2.2.2.2.1) (Go.IntKind.wrap Go.IntKind.u64 ((Go.IntKind.wrap Go.IntKind.u64 ((x.1.2.1.getD (Int.toNat x.1.2.2.2.2.1) (0 : Int)) - (f183 (x.1.2.2.1, (x.1.2.2.2.2.1, ()))).1)) - x.1.2.2.2.1))), ()))))
  else none)
  else none)
  else none)
  else (e (.inl (((), ()), x.2)))
theorem s188_5 (p163 : DenS I163 → Bool) (f163 : DenS I163 → DenS O163) (p183 : DenS I183 → Bool) (f183 : DenS I183 → DenS O183) (p133 : DenS I133 → Bool) (f133 : DenS I133 → DenS O133) (w188_5 : Pat.D P188_5 → Option (OutT X188_5 Q188_5)) (d : Nat) (R : Type) (L : Pat.D P188_5 → Option R) (e : OutT X188_5 Q188_5 → Option R) (x : Pat.D P188_5) :
    lStep { P := Go.Proofs.Tryd.prog, sums := [(163, ⟨I163, O163, p163, f163⟩), (183, ⟨I183, O183, p183, f183⟩), (133, ⟨I133, O133, p133, f133⟩)], loops := [(188, 5, LoopSpec.of P188_5 A188_5 X188_5 Q188_5 w188_5)], globs := G1 } (d + 2) 188 (bodyOf Go.Proofs.Tryd.f188 5) P188_5 A188_5 X188_5 Q188_5 (R := R) L e x = h188_5 p163 f163 p183 f183 p133 f133 L e x := by kernel_rfl
theorem m188_5 (p163 : DenS I163 → Bool) (f163 : DenS I163 → DenS O163) (p183 : DenS I183 → Bool) (f183 : DenS I183 → DenS O183) (p133 : DenS I133 → Bool) (f133 : DenS I133 → DenS O133) : Par fun L e x => h188_5 p163 f163 p183 f183 p133 f133 L e x := by
  intro A B rel L L' e e' h0 hL he x
  unfold h188_5
  repeat' (first | exact h0 | exact hL _ | exact he _ | apply rel_cond | (apply rel_obind h0; intro _) | (apply rel_obind2 <;> intro _))
noncomputable def t188 (p163 : DenS I163 → Bool) (f163 : DenS I163 → DenS O163) (p183 : DenS I183 → Bool) (f183 : DenS I183 → DenS O183) (p133 : DenS I133 → Bool) (f133 : DenS I133 → DenS O133) (w188_5 : Pat.D P188_5 → Option (OutT X188_5 Q188_5)) (a0 : Den (.slice (.int .u64))) (a1 : Den (.slice (.int .u64))) : Option (DenS O188) :=
  bif (p163 (a0, ())) then
  (bif ((decide ((0 : Int) ≤ (f163 (a0, ())).1)) && (decide (((f163 (a0, ())).1 * (8 : Int)) ≤ (140737488355328 : Int)))) then
  (Vx.obind (w188_5 (((f163 (a0, ())).1, (a0, (a1, ((0 : Int), ((0 : Int), ((), ())))))), ((List.replicate (Int.toNat (f163 (a0, ())).1) (0 : Int)), ()))) fun y2 =>
  Vx.obind2 y2 (fun y3 =>
  bif (p133 y3.2) then
  (some (f133 y3.2))
  else none) (fun z3 =>
  none))
  else none)
  else none
theorem r188 (p163 : DenS I163 → Bool) (f163 : DenS I163 → DenS O163) (p183 : DenS I183 → Bool) (f183 : DenS I183 → DenS O183) (p133 : DenS I133 → Bool) (f133 : DenS I133 → DenS O133) (w188_5 : Pat.D P188_5 → Option (OutT X188_5 Q188_5)) (a0 : Den (.slice (.int .u64))) (a1 : Den (.slice (.int .u64))) :
    run { P := Go.Proofs.Tryd.prog, sums := [(163, ⟨I163, O163, p163, f163⟩), (183, ⟨I183, O183, p183, f183⟩), (133, ⟨I133, O133, p133, f133⟩)], loops := [(188, 5, LoopSpec.of P188_5 A188_5 X188_5 Q188_5 w188_5)], globs := G1 } 9 188 Go.Proofs.Tryd.f188 I188 O188 (a0, a1, ()) = t188 p163 f163 p183 f183 p133 f133 w188_5 a0 a1 := by kernel_rfl
noncomputable def W188_5 : P188_5.D → Option (OutT X188_5 Q188_5) := lfix fun L => h188_5 S163.pre S163.F S183.pre S183.F S133.pre S133.F L some
noncomputable def T188 (x : DenS I188) : Option (DenS O188) := t188 S163.pre S163.F S183.pre S183.F S133.pre S133.F W188_5 x.1 x.2.1
noncomputable def C188 : Cfg := { P := Go.Proofs.Tryd.prog, sums := [(163, S163), (183, S183), (133, S133)], loops := [(188, 5, LoopSpec.of P188_5 A188_5 X188_5 Q188_5 W188_5)], globs := G1 }
noncomputable def S188 : Sum := sumOf I188 O188 T188 (DenS.dflt O188)
theorem S188_sound : Sound Go.Proofs.Tryd.prog G1 188 S188 :=
  fn_sound C188 9 188 Go.Proofs.Tryd.f188 mixedOk (by kernel_rfl) (by kernel_rfl) (by kernel_rfl) ⟨S163_sound, ⟨S183_sound, ⟨S133_sound, trivial⟩⟩⟩ ⟨rfl, fun d => loopOk_of (fun L e x => h188_5 S163.pre S163.F S183.pre S183.F S133.pre S133.F L e x) (m188_5 S163.pre S163.F S183.pre S183.F S133.pre S133.F) (fun R L e x => s188_5 S163.pre S163.F S183.pre S183.F S133.pre S133.F W188_5 d R L e x), trivial⟩ I188 O188 T188 _ fun x => r188 S163.pre S163.F S183.pre S183.F S133.pre S133.F W188_5 x.1 x.2.1
/-- vernier/vernierref02.quotient -/
abbrev I182 : Sig := [(false, .slice (.int .u64)), (false, .slice (.int .u64))]
abbrev O182 : Sig := [(false, .slice (.int .u64)), (false, .slice (.int .u64))]
abbrev P182_8 : Pat := ⟨69, [(0, .one (.sl (.int .u64))), (1, .one (.sl (.int .u64))), (10, .one (.v .i64)), (8, .one (.own 0)), (9, .one (.sl (.int .u64)))], [.arr (.int .u64)]⟩
abbrev A182_8 : List (Nat × Shape) := []
abbrev X182_8 : List (Nat × Pat) := [(0, ⟨69, [(8, .one (.own 0)), (9, .one (.sl (.int .u64)))], [.arr (.int .u64)]⟩)]
abbrev Q182_8 : Option Pat := none
noncomputable def h182_8 (p138 : DenS I138 → Bool) (f138 : DenS I138 → DenS O138) (p163 : DenS I163 → Bool) (f163 : DenS I163 → DenS O163) (p187 : DenS I187 → Bool) (f187 : DenS I187 → DenS O187) (p181 : DenS I181 → Bool) (f181 : DenS I181 → DenS O181) (p167 : DenS I167 → Bool) (f167 : DenS I167 → DenS O167) (p168 : DenS I168 → Bool) (f168 : DenS I168 → DenS O168) (p166 : DenS I166 → Bool) (f166 : DenS I166 → DenS O166) (p188 : DenS I188 → Bool) (f188 : DenS I188 → DenS O188) (p133 : DenS I133 → Bool) (f133 : DenS I133 → DenS O133) {R : Type} (L : Pat.D P182_8 → Option R) (e : OutT X182_8 Q182_8 → Option R) (x : Pat.D P182_8) : Option R :=
  bif (decide (x.1.2.2.1 ≥ (0 : Int))) then
  (bif (p181 (x.1.2.2.2.2.1, ((1 : Int), ()))) then
  (bif (p167 (x.1.1, (x.1.2.2.1, ()))) then
  (bif ((f167 (x.1.1, (x.1.2.2.1, ()))).1 == (1 : Int)) then
  (bif (p168 ((f181 (x.1.2.2.2.2.1, ((1 : Int), ()))).1, (((1 : Int) :: []), ()))) then
  (bif (p166 ((f168 ((f181 (x.1.2.2.2.2.1, ((1 : Int), ()))).1, (((1 : Int) :: []), ()))).1, (x.1.2.1, ()))) then
  (bif (decide ((f166 ((f168 ((f181 (x.1.2.2.2.2.1, ((1 : Int), ()))).1, (((1 : Int) :: []), ()))).1, (x.1.2.1, ()))).1 ≥ (0 : Int))) then
  (bif (p188 ((f168 ((f181 (x.1.2.2.2.2.1, ((1 : Int), ()))).1, (((1 : Int) :: []), ()))).1, (x.1.2.1, ()))) then
  (bif ((decide ((0 : Int) ≤ (Vx.quoI Go.IntKind.i64 x.1.2.2.1 (64 : Int)))) && (decide ((Vx.quoI Go.IntKind.i64 x.1.2.2.1 (64 : Int)) < (x.2.1.length : Int)))) then
  (bif ((decide ((0 : Int) ≤ (Vx.quoI Go.IntKind.i64 x.1.2.2.1 (64 : Int)))) && (decide ((Vx.quoI Go.IntKind.i64 x.1.2.2.1 (64 : Int)) < (x.2.1.length : Int)))) then
  ((L ((x.1.1, (x.1.2.1, ((Go.IntKind.wrap Go.IntKind.i64 (x.1.2.2.1 - (1 : Int))), ((), (f188 ((f168 ((f181 (x.1.2.2.2.2.1, ((1 : Int), ()))).1, (((1 : Int) :: []), ()))).1, (x.1.2.1, ()))))))), ((x.2.1.set (Int.toNat (Vx.quoI Go.IntKind.i64 x.1.2.2.1 (64 : Int))) (Vx.orI Go.IntKind.u64 (x.2.1.getD (Int.toNat (Vx.quoI Go.IntKind.i64 x.1.2.2.1 (64 : Int))) (0 : Int)) (Vx.shlI Go.IntKind.u64 (1 : Int) (Go.IntKind.wrap Go.IntKind.u64 (Int.tmod x.1.2.2.1 (64 : Int)))))), ()))))
  else none)
  else none)
  else none)
  else (L ((x.1.1, (x.1.2.1, ((Go.IntKind.wrap Go.IntKind.i64 (x.1.2.2.1 - (1 : Int))), ((), (f168 ((f181 (x.1.2.2.2.2.1, ((1 : Int), ()))).1, (((1 : Int) :: []), ()))))))), x.2)))
  else none)
  else none)
  else bif (p166 ((f181 (x.1.2.2.2.2.1, ((1 : Int), ()))).1, (x.1.2.1, ()))) then
  (bif (decide ((f166 ((f181 (x.1.2.2.2.2.1, ((1 : Int), ()))).1, (x.1.2.1, ()))).1 ≥ (0 : Int))) then
  (bif (p188 ((f181 (x.1.2.2.2.2.1, ((1 : Int), ()))).1, (x.1.2.1, ()))) then
  (bif ((decide ((0 : Int) ≤ (Vx.quoI Go.IntKind.i64 x.1.2.2.1 (64 : Int)))) && (decide ((Vx.quoI Go.IntKind.i64 x.1.2.2.1 (64 : Int)) < (x.2.1.length : Int)))) then
  (bif ((decide ((0 : Int) ≤ (Vx.quoI Go.IntKind.i64 x.1.2.2.1 (64 : Int)))) && (decide ((Vx.quoI Go.IntKind.i64 x.1.2.2.1 (64 : Int)) < (x.2.1.length : Int)))) then
  ((L ((x.1.1, (x.1.2.1, ((Go.IntKind.wrap Go.IntKind.i64 (x.1.2.2.1 - (1 : Int))), ((), (f188 ((f181 (x.1.2.2.2.2.1, ((1 : Int), ()))).1, (x.1.2.1, ()))))))), ((x.2.1.set (Int.toNat (Vx.quoI Go.IntKind.i64 x.1.2.2.1 (64 : Int))) (Vx.orI Go.IntKind.u64 (x.2.1.getD (Int.toNat (Vx.quoI Go.IntKind.i64 x.1.2.2.1 (64 : Int))) (0 : Int)) (Vx.shlI Go.IntKind.u64 (1 : Int) (Go.IntKind.wrap Go.IntKind.u64 (Int.tmod x.1.2.2.1 (64 : Int)))))), ()))))
  else none)
  else none)
  else none)
  else (L ((x.1.1, (x.1.2.1, ((Go.IntKind.wrap Go.IntKind.i64 (x.1.2.2.1 - (1 : Int))), ((), (f181 (x.1.2.2.2.2.1, ((1 : Int), ()))))))), x.2)))
  else none)
  else none)
  else none)
  else (e (.inl (((), x.1.2.2.2.2), x.2)))
theorem s182_8 (p138 : DenS I138 → Bool) (f138 : DenS I138 → DenS O138) (p163 : DenS I163 → Bool) (f163 : DenS I163 → DenS O163) (p187 : DenS I187 → Bool) (f187 : DenS I187 → DenS O187) (p181 : DenS I181 → Bool) (f181 : DenS I181 → DenS O181) (p167 : DenS I167 → Bool) (f167 : DenS I167 → DenS O167) (p168 : DenS I168 → Bool) (f168 : DenS I168 → DenS O168) (p166 : DenS I166 → Bool) (f166 : DenS I166 → DenS O166) (p188 : DenS I188 → Bool) (f188 : DenS I188 → DenS O188) (p133 : DenS I133 → Bool) (f133 : DenS I133 → DenS O133) (w182_8 : Pat.D P182_8 → Option (OutT X182_8 Q182_8)) (d : Nat) (R : Type) (L : Pat.D P182_8 → Option R) (e : OutT X182_8 Q182_8 → Option R) (x : Pat.D P182_8) :
    lStep { P := Go.Proofs.Tryd.prog, sums := [(138, ⟨I138, O138, p138, f138⟩), (163, ⟨I163, O163, p163, f163⟩), (187, ⟨I187, O187, p187, f187⟩), (181, ⟨I181, O181, p181, f181⟩), (167, ⟨I167, O167, p167, f167⟩), (168, ⟨I168, O168, p168, f168⟩), (166, ⟨I166, O166, p166, f166⟩), (188, ⟨I188, O188, p188, f188⟩), (133, ⟨I133, O133, p133, f133⟩)], loops := [(182, 8, LoopSpec.of P182_8 A182_8 X182_8 Q182_8 w182_8)], globs := G1 } (d + 2) 182 (bodyOf Go.Proofs.Tryd.f182 8) P182_8 A182_8 X182_8 Q182_8 (R := R) L e x = h182_8 p138 f138 p163 f163 p187 f187 p181 f181 p167 f167 p168 f168 p166 f166 p188 f188 p133 f133 L e x := by kernel_rfl
theorem m182_8 (p138 : DenS I138 → Bool) (f138 : DenS I138 → DenS O138) (p163 : DenS I163 → Bool) (f163 : DenS I163 → DenS O163) (p187 : DenS I187 → Bool) (f187 : DenS I187 → DenS O187) (p181 : DenS I181 → Bool) (f181 : DenS I181 → DenS O181) (p167 : DenS I167 → Bool) (f167 : DenS I167 → DenS O167) (p168 : DenS I168 → Bool) (f168 : DenS I168 → DenS O168) (p166 : DenS I166 → Bool) (f166 : DenS I166 → DenS O166) (p188 : DenS I188 → Bool) (f188 : DenS I188 → DenS O188) (p133 : DenS I133 → Bool) (f133 : DenS I133 → DenS O133) : Par fun L e x => h182_8 p138 f138 p163 f163 p187 f187 p181 f181 p167 f167 p168 f168 p166 f166 p188 f188 p133 f133 L e x := by
  intro A B rel L L' e e' h0 hL he x
  unfold h182_8
  repeat' (first | exact h0 | exact hL _ | exact he _ | apply rel_cond | (apply rel_obind h0; intro _) | (apply rel_obind2 <;> intro _))
noncomputable def t182 (p138 : DenS I138 → Bool) (f138 : DenS I138 → DenS O138) (p163 : DenS I163 → Bool) (f163 : DenS I163 → DenS O163) (p187 : DenS I187 → Bool) (f187 : DenS I187 → DenS O187) (p181 : DenS I181 → Bool) (f181 : DenS I181 → DenS O181) (p167 : DenS I167 → Bool) (f167 : DenS I167 → DenS O167) (p168 : DenS I168 → Bool) (f168 : DenS I168 → DenS O168) (p166 : DenS I166 → Bool) (f166 : DenS I166 → DenS O166) (p188 : DenS I188 → Bool) (f188 : DenS I188 → DenS O188) (p133 : DenS I133 → Bool) (f133 : DenS I133 → DenS O133) (w182_8 : Pat.D P182_8 → Option (OutT X182_8 Q182_8)) (a0 : Den (.slice (.int .u64))) (a1 : Den (.slice (.int .u64))) : Option (DenS O182) :=
  bif (p138 (a0, ())) then
  (bif (p138 (a1, ())) then
  (bif (decide ((f138 (a0, ())).1 < (f138 (a1, ())).1)) then
  (bif (p133 (a0, ())) then
  (some ([], (f133 (a0, ()))))
  else none)
  else bif (p163 (a0, ())) then
  (bif ((decide ((0 : Int) ≤ (f163 (a0, ())).1)) && (decide (((f163 (a0, ())).1 * (8 : Int)) ≤ (140737488355328 : Int)))) then
  (bif (p187 (a0, ((Go.IntKind.wrap Go.IntKind.i64 ((Go.IntKind.wrap Go.IntKind.i64 ((f138 (a0, ())).1 - (f138 (a1, ())).1)) + (1 : Int))), ()))) then
  (Vx.obind (w182_8 ((a0, (a1, ((Go.IntKind.wrap Go.IntKind.i64 ((f138 (a0, ())).1 - (f138 (a1, ())).1)), ((), (f187 (a0, ((Go.IntKind.wrap Go.IntKind.i64 ((Go.IntKind.wrap Go.IntKind.i64 ((f138 (a0, ())).1 - (f138 (a1, ())).1)) + (1 : Int))), ()))))))), ((List.replicate (Int.toNat (f163 (a0, ())).1) (0 : Int)), ()))) fun y6 =>
  Vx.obind2 y6 (fun y7 =>
  bif (p133 y7.2) then
  (some ((f133 y7.2).1, y7.1.2))
  else none) (fun z7 =>
  none))
  else none)
  else none)
  else none)
  else none)
  else none
theorem r182 (p138 : DenS I138 → Bool) (f138 : DenS I138 → DenS O138) (p163 : DenS I163 → Bool) (f163 : DenS I163 → DenS O163) (p187 : DenS I187 → Bool) (f187 : DenS I187 → DenS O187) (p181 : DenS I181 → Bool) (f181 : DenS I181 → DenS O181) (p167 : DenS I167 → Bool) (f167 : DenS I167 → DenS O167) (p168 : DenS I168 → Bool) (f168 : DenS I168 → DenS O168) (p166 : DenS I166 → Bool) (f166 : DenS I166 → DenS O166) (p188 : DenS I188 → Bool) (f188 : DenS I188 → DenS O188) (p133 : DenS I133 → Bool) (f133 : DenS I133 → DenS O133) (w182_8 : Pat.D P182_8 → Option (OutT X182_8 Q182_8)) (a0 : Den (.slice (.int .u64))) (a1 : Den (.slice (.int .u64))) :
    run { P := Go.Proofs.Tryd.prog, sums := [(138, ⟨I138, O138, p138, f138⟩), (163, ⟨I163, O163, p163, f163⟩), (187, ⟨I187, O187, p187, f187⟩), (181, ⟨I181, O181, p181, f181⟩), (167, ⟨I167, O167, p167, f167⟩), (168, ⟨I168, O168, p168, f168⟩), (166, ⟨I166, O166, p166, f166⟩), (188, ⟨I188, O188, p188, f188⟩), (133, ⟨I133, O133, p133, f133⟩)], loops := [(182, 8, LoopSpec.of P182_8 A182_8 X182_8 Q182_8 w182_8)], globs := G1 } 9 182 Go.Proofs.Tryd.f182 I182 O182 (a0, a1, ()) = t182 p138 f138 p163 f163 p187 f187 p181 f181 p167 f167 p168 f168 p166 f166 p188 f188 p133 f133 w182_8 a0 a1 := by kernel_rfl
noncomputable def W182_8 : P182_8.D → Option (OutT X182_8 Q182_8) := lfix fun L => h182_8 S138.pre S138.F S163.pre S163.F S187.pre S187.F S181.pre S181.F S167.pre S167.F S168.pre S168.F S166.pre S166.F S188.pre S188.F S133.pre S133.F L some
noncomputable def T182 (x : DenS I182) : Option (DenS O182) := t182 S138.pre S138.F S163.pre S163.F S187.pre S187.F S181.pre S181.F S167.pre S167.F S168.pre S168.F S166.pre S166.F S188.pre S188.F S133.pre S133.F W182_8 x.1 x.2.1
noncomputable def C182 : Cfg := { P := Go.Proofs.Tryd.prog, sums := [(138, S138), (163, S163), (187, S187), (181, S181), (167, S167), (168, S168), (166, S166), (188, S188), (133, S133)], loops := [(182, 8, LoopSpec.of P182_8 A182_8 X182_8 Q182_8 W182_8)], globs := G1 }
noncomputable def S182 : Sum := sumOf I182 O182 T182 (DenS.dflt O182)
theorem S182_sound : Sound Go.Proofs.Tryd.prog G1 182 S182 :=
  fn_sound C182 9 182 Go.Proofs.Tryd.f182 mixedOk (by kernel_rfl) (by kernel_rfl) (by kernel_rfl) ⟨S138_sound, ⟨S163_sound, ⟨S187_sound, ⟨S181_sound, ⟨S167_sound, ⟨S168_sound, ⟨S166_sound, ⟨S188_sound, ⟨S133_sound, trivial⟩⟩⟩⟩⟩⟩⟩⟩⟩ ⟨rfl, fun d => loopOk_of (fun L e x => h182_8 S138.pre S138.F S163.pre S163.F S187.pre S187.F S181.pre S181.F S167.pre S167.F S168.pre S168.F S166.pre S166.F S188.pre S188.F S133.pre S133.F L e x) (m182_8 S138.pre S138.F S163.pre S163.F S187.pre S187.F S181.pre S181.F S167.pre S167.F S168.pre S168.F S166.pre S166.F S188.pre S188.F S133.pre S133.F) (fun R L e x => s182_8 S138.pre S138.F S163.pre S163.F S187.pre S187.F S181.pre S181.F S167.pre S167.F S168.pre S168.F S166.pre S166.F S188.pre S188.F S133.pre S133.F W182_8 d R L e x), trivial⟩ I182 O182 T182 _ fun x => r182 S138.pre S138.F S163.pre S163.F S187.pre S187.F S181.pre S181.F S167.pre S167.F S168.pre S168.F S166.pre S166.F S188.pre S188.F S133.pre S133.F W182_8 x.1 x.2.1
/-- vernier/vernierref02.Divide -/
abbrev I165 : Sig := [(false, .slice (.int .u64)), (false, .slice (.int .u64))]
abbrev O165 : Sig := [(false, .slice (.int .u64)), (false, .slice (.int .u64))]
noncomputable def t165 (p182 : DenS I182 → Bool) (f182 : DenS I182 → DenS O182) (a0 : Den (.slice (.int .u64))) (a1 : Den (.slice (.int .u64))) : Option (DenS O165) :=
  bif (p182 (a0, (a1, ()))) then
  (some (f182 (a0, (a1, ()))))
  else none
theorem r165 (p182 : DenS I182 → Bool) (f182 : DenS I182 → DenS O182) (a0 : Den (.slice (.int .u64))) (a1 : Den (.slice (.int .u64))) :
    run { P := Go.Proofs.Tryd.prog, sums := [(182, ⟨I182, O182, p182, f182⟩)], loops := [], globs := G1 } 9 165 Go.Proofs.Tryd.f165 I165 O165 (a0, a1, ()) = t165 p182 f182 a0 a1 := by kernel_rfl
noncomputable def T165 (x : DenS I165) : Option (DenS O165) := t165 S182.pre S182.F x.1 x.2.1
noncomputable def C165 : Cfg := { P := Go.Proofs.Tryd.prog, sums := [(182, S182)], loops := [], globs := G1 }
noncomputable def S165 : Sum := sumOf I165 O165 T165 (DenS.dflt O165)
theorem S165_sound : Sound Go.Proofs.Tryd.prog G1 165 S165 :=
  fn_sound C165 9 165 Go.Proofs.Tryd.f165 mixedOk (by kernel_rfl) (by kernel_rfl) (by kernel_rfl) ⟨S182_sound, trivial⟩ trivial I165 O165 T165 _ fun x => r165 S182.pre S182.F x.1 x.2.1
/-- vernier/vernierref02.Up -/
abbrev I164 : Sig := [(false, .slice (.int .u64)), (false, .int .i64)]
abbrev O164 : Sig := [(false, .slice (.int .u64))]
noncomputable def t164 (p181 : DenS I181 → Bool) (f181 : DenS I181 → DenS O181) (a0 : Den (.slice (.int .u64))) (a1 : Den (.int .i64)) : Option (DenS O164) :=
  bif (p181 (a0, (a1, ()))) then
  (some (f181 (a0, (a1, ()))))
  else none
theorem r164 (p181 : DenS I181 → Bool) (f181 : DenS I181 → DenS O181) (a0 : Den (.slice (.int .u64))) (a1 : Den (.int .i64)) :
    run { P := Go.Proofs.Tryd.prog, sums := [(181, ⟨I181, O181, p181, f181⟩)], loops := [], globs := G1 } 9 164 Go.Proofs.Tryd.f164 I164 O164 (a0, a1, ()) = t164 p181 f181 a0 a1 := by kernel_rfl
noncomputable def T164 (x : DenS I164) : Option (DenS O164) := t164 S181.pre S181.F x.1 x.2.1
noncomputable def C164 : Cfg := { P := Go.Proofs.Tryd.prog, sums := [(181, S181)], loops := [], globs := G1 }
noncomputable def S164 : Sum := sumOf I164 O164 T164 (DenS.dflt O164)
theorem S164_sound : Sound Go.Proofs.Tryd.prog G1 164 S164 :=
  fn_sound C164 9 164 Go.Proofs.Tryd.f164 mixedOk (by kernel_rfl) (by kernel_rfl) (by kernel_rfl) ⟨S181_sound, trivial⟩ trivial I164 O164 T164 _ fun x => r164 S181.pre S181.F x.1 x.2.1
/-- vernier/vernierref05.places -/
abbrev I136 : Sig := [(true, .pair (.bool) (.pair (.slice (.int .u64)) (.pair (.slice (.int .u64)) (.pair (.int .i64) (.unit))))), (false, .int .i64)]
abbrev O136 : Sig := [(false, .slice (.int .u64)), (false, .int .i64)]
noncomputable def t136 (p165 : DenS I165 → Bool) (f165 : DenS I165 → DenS O165) (p164 : DenS I164 → Bool) (f164 : DenS I164 → DenS O164) (p166 : DenS I166 → Bool) (f166 : DenS I166 → DenS O166) (a0 : Den (.pair (.bool) (.pair (.slice (.int .u64)) (.pair (.slice (.int .u64)) (.pair (.int .i64) (.unit)))))) (a1 : Den (.int .i64)) : Option (DenS O136) :=
  bif (decide (a0.2.2.2.1 ≥ a1)) then
  (bif (p164 (a0.2.1, ((Go.IntKind.wrap Go.IntKind.i64 (a0.2.2.2.1 - a1)), ()))) then
  (bif (p165 ((f164 (a0.2.1, ((Go.IntKind.wrap Go.IntKind.i64 (a0.2.2.2.1 - a1)), ()))).1, (a0.2.2.1, ()))) then
  (bif (((f165 ((f164 (a0.2.1, ((Go.IntKind.wrap Go.IntKind.i64 (a0.2.2.2.1 - a1)), ()))).1, (a0.2.2.1, ()))).2.1.length : Int) == (0 : Int)) then
  (some ((f165 ((f164 (a0.2.1, ((Go.IntKind.wrap Go.IntKind.i64 (a0.2.2.2.1 - a1)), ()))).1, (a0.2.2.1, ()))).1, ((0 : Int), ())))
  else bif (p164 ((f165 ((f164 (a0.2.1, ((Go.IntKind.wrap Go.IntKind.i64 (a0.2.2.2.1 - a1)), ()))).1, (a0.2.2.1, ()))).2.1, ((1 : Int), ()))) then
  (bif (p166 ((f164 ((f165 ((f164 (a0.2.1, ((Go.IntKind.wrap Go.IntKind.i64 (a0.2.2.2.1 - a1)), ()))).1, (a0.2.2.1, ()))).2.1, ((1 : Int), ()))).1, (a0.2.2.1, ()))) then
  (some ((f165 ((f164 (a0.2.1, ((Go.IntKind.wrap Go.IntKind.i64 (a0.2.2.2.1 - a1)), ()))).1, (a0.2.2.1, ()))).1, ((Go.IntKind.wrap Go.IntKind.i64 ((2 : Int) + (f166 ((f164 ((f165 ((f164 (a0.2.1, ((Go.IntKind.wrap Go.IntKind.i64 (a0.2.2.2.1 - a1)), ()))).1, (a0.2.2.1, ()))).2.1, ((1 : Int), ()))).1, (a0.2.2.1, ()))).1)), ())))
  else none)
  else none)
  else none)
  else none)
  else bif (p164 (a0.2.2.1, ((Go.IntKind.wrap Go.IntKind.i64 (a1 - a0.2.2.2.1)), ()))) then
  (bif (p165 (a0.2.1, (f164 (a0.2.2.1, ((Go.IntKind.wrap Go.IntKind.i64 (a1 - a0.2.2.2.1)), ()))))) then
  (bif (((f165 (a0.2.1, (f164 (a0.2.2.1, ((Go.IntKind.wrap Go.IntKind.i64 (a1 - a0.2.2.2.1)), ()))))).2.1.length : Int) == (0 : Int)) then
  (some ((f165 (a0.2.1, (f164 (a0.2.2.1, ((Go.IntKind.wrap Go.IntKind.i64 (a1 - a0.2.2.2.1)), ()))))).1, ((0 : Int), ())))
  else bif (p164 ((f165 (a0.2.1, (f164 (a0.2.2.1, ((Go.IntKind.wrap Go.IntKind.i64 (a1 - a0.2.2.2.1)), ()))))).2.1, ((1 : Int), ()))) then
  (bif (p166 ((f164 ((f165 (a0.2.1, (f164 (a0.2.2.1, ((Go.IntKind.wrap Go.IntKind.i64 (a1 - a0.2.2.2.1)), ()))))).2.1, ((1 : Int), ()))).1, (f164 (a0.2.2.1, ((Go.IntKind.wrap Go.IntKind.i64 (a1 - a0.2.2.2.1)), ()))))) then
  (some ((f165 (a0.2.1, (f164 (a0.2.2.1, ((Go.IntKind.wrap Go.IntKind.i64 (a1 - a0.2.2.2.1)), ()))))).1, ((Go.IntKind.wrap Go.IntKind.i64 ((2 : Int) + (f166 ((f164 ((f165 (a0.2.1, (f164 (a0.2.2.1, ((Go.IntKind.wrap Go.IntKind.i64 (a1 - a0.2.2.2.1)), ()))))).2.1, ((1 : Int), ()))).1, (f164 (a0.2.2.1, ((Go.IntKind.wrap Go.IntKind.i64 (a1 - a0.2.2.2.1)), ()))))).1)), ())))
  else none)
  else none)
  else none)
  else none
theorem r136 (p165 : DenS I165 → Bool) (f165 : DenS I165 → DenS O165) (p164 : DenS I164 → Bool) (f164 : DenS I164 → DenS O164) (p166 : DenS I166 → Bool) (f166 : DenS I166 → DenS O166) (a0 : Den (.pair (.bool) (.pair (.slice (.int .u64)) (.pair (.slice (.int .u64)) (.pair (.int .i64) (.unit)))))) (a1 : Den (.int .i64)) :
    run { P := Go.Proofs.Tryd.prog, sums := [(165, ⟨I165, O165, p165, f165⟩), (164, ⟨I164, O164, p164, f164⟩), (166, ⟨I166, O166, p166, f166⟩)], loops := [], globs := G1 } 9 136 Go.Proofs.Tryd.f136 I136 O136 (a0, a1, ()) = t136 p165 f165 p164 f164 p166 f166 a0 a1 := by kernel_rfl
noncomputable def T136 (x : DenS I136) : Option (DenS O136) := t136 S165.pre S165.F S164.pre S164.F S166.pre S166.F x.1 x.2.1
noncomputable def C136 : Cfg := { P := Go.Proofs.Tryd.prog, sums := [(165, S165), (164, S164), (166, S166)], loops := [], globs := G1 }
noncomputable def S136 : Sum := sumOf I136 O136 T136 (DenS.dflt O136)
theorem S136_sound : Sound Go.Proofs.Tryd.prog G1 136 S136 :=
  fn_sound C136 9 136 Go.Proofs.Tryd.f136 mixedOk (by kernel_rfl) (by kernel_rfl) (by kernel_rfl) ⟨S165_sound, ⟨S164_sound, ⟨S166_sound, trivial⟩⟩⟩ trivial I136 O136 T136 _ fun x => r136 S165.pre S165.F S164.pre S164.F S166.pre S166.F x.1 x.2.1
/-- vernier/vernierref05.Top -/
abbrev I135 : Sig := [(true, .pair (.bool) (.pair (.slice (.int .u64)) (.pair (.slice (.int .u64)) (.pair (.int .i64) (.unit)))))]
abbrev O135 : Sig := [(false, .int .i64)]
noncomputable def t135 (p138 : DenS I138 → Bool) (f138 : DenS I138 → DenS O138) (p136 : DenS I136 → Bool) (f136 : DenS I136 → DenS O136) (a0 : Den (.pair (.bool) (.pair (.slice (.int .u64)) (.pair (.slice (.int .u64)) (.pair (.int .i64) (.unit)))))) : Option (DenS O135) :=
  bif (p138 (a0.2.1, ())) then
  (bif (p138 (a0.2.2.1, ())) then
  (bif (p136 ((a0.1, a0.2), ((Go.IntKind.wrap Go.IntKind.i64 ((Go.IntKind.wrap Go.IntKind.i64 ((f138 (a0.2.1, ())).1 - (f138 (a0.2.2.1, ())).1)) + a0.2.2.2.1)), ()))) then
  (bif (((f136 ((a0.1, a0.2), ((Go.IntKind.wrap Go.IntKind.i64 ((Go.IntKind.wrap Go.IntKind.i64 ((f138 (a0.2.1, ())).1 - (f138 (a0.2.2.1, ())).1)) + a0.2.2.2.1)), ()))).1.length : Int) == (0 : Int)) then
  (some ((Go.IntKind.wrap Go.IntKind.i64 ((Go.IntKind.wrap Go.IntKind.i64 ((Go.IntKind.wrap Go.IntKind.i64 ((f138 (a0.2.1, ())).1 - (f138 (a0.2.2.1, ())).1)) + a0.2.2.2.1)) - (1 : Int))), ()))
  else some ((Go.IntKind.wrap Go.IntKind.i64 ((Go.IntKind.wrap Go.IntKind.i64 ((f138 (a0.2.1, ())).1 - (f138 (a0.2.2.1, ())).1)) + a0.2.2.2.1)), ()))
  else none)
  else none)
  else none
theorem r135 (p138 : DenS I138 → Bool) (f138 : DenS I138 → DenS O138) (p136 : DenS I136 → Bool) (f136 : DenS I136 → DenS O136) (a0 : Den (.pair (.bool) (.pair (.slice (.int .u64)) (.pair (.slice (.int .u64)) (.pair (.int .i64) (.unit)))))) :
    run { P := Go.Proofs.Tryd.prog, sums := [(138, ⟨I138, O138, p138, f138⟩), (136, ⟨I136, O136, p136, f136⟩)], loops := [], globs := G1 } 9 135 Go.Proofs.Tryd.f135 I135 O135 (a0, ()) = t135 p138 f138 p136 f136 a0 := by kernel_rfl
noncomputable def T135 (x : DenS I135) : Option (DenS O135) := t135 S138.pre S138.F S136.pre S136.F x.1
noncomputable def C135 : Cfg := { P := Go.Proofs.Tryd.prog, sums := [(138, S138), (136, S136)], loops := [], globs := G1 }
noncomputable def S135 : Sum := sumOf I135 O135 T135 (DenS.dflt O135)
theorem S135_sound : Sound Go.Proofs.Tryd.prog G1 135 S135 :=
  fn_sound C135 9 135 Go.Proofs.Tryd.f135 mixedOk (by kernel_rfl) (by kernel_rfl) (by kernel_rfl) ⟨S138_sound, ⟨S136_sound, trivial⟩⟩ trivial I135 O135 T135 _ fun x => r135 S138.pre S138.F S136.pre S136.F x.1
/-- vernier/vernierref04.Inf -/
abbrev I169 : Sig := [(false, .int .i64), (false, .int .u64)]
abbrev O169 : Sig := [(false, .int .u64)]
noncomputable def t169 (p131 : DenS I131 → Bool) (f131 : DenS I131 → DenS O131) (p132 : DenS I132 → Bool) (f132 : DenS I132 → DenS O132) (a0 : Den (.int .i64)) (a1 : Den (.int .u64)) : Option (DenS O169) :=
  bif (p131 (a0, ())) then
  (bif (p132 (a0, (a1, ((Go.IntKind.wrap Go.IntKind.u64 (Go.IntKind.wrap Go.IntKind.i64 ((Go.IntKind.wrap Go.IntKind.i64 ((2 : Int) * (f131 (a0, ())).1.2.2.2.1)) + (1 : Int)))), ((0 : Int), ()))))) then
  (some (f132 (a0, (a1, ((Go.IntKind.wrap Go.IntKind.u64 (Go.IntKind.wrap Go.IntKind.i64 ((Go.IntKind.wrap Go.IntKind.i64 ((2 : Int) * (f131 (a0, ())).1.2.2.2.1)) + (1 : Int)))), ((0 : Int), ()))))))
  else none)
  else none
theorem r169 (p131 : DenS I131 → Bool) (f131 : DenS I131 → DenS O131) (p132 : DenS I132 → Bool) (f132 : DenS I132 → DenS O132) (a0 : Den (.int .i64)) (a1 : Den (.int .u64)) :
    run { P := Go.Proofs.Tryd.prog, sums := [(131, ⟨I131, O131, p131, f131⟩), (132, ⟨I132, O132, p132, f132⟩)], loops := [], globs := G1 } 9 169 Go.Proofs.Tryd.f169 I169 O169 (a0, a1, ()) = t169 p131 f131 p132 f132 a0 a1 := by kernel_rfl
noncomputable def T169 (x : DenS I169) : Option (DenS O169) := t169 S131.pre S131.F S132.pre S132.F x.1 x.2.1
noncomputable def C169 : Cfg := { P := Go.Proofs.Tryd.prog, sums := [(131, S131), (132, S132)], loops := [], globs := G1 }
noncomputable def S169 : Sum := sumOf I169 O169 T169 (DenS.dflt O169)
theorem S169_sound : Sound Go.Proofs.Tryd.prog G1 169 S169 :=
  fn_sound C169 9 169 Go.Proofs.Tryd.f169 mixedOk (by kernel_rfl) (by kernel_rfl) (by kernel_rfl) ⟨S131_sound.more G01, ⟨S132_sound.more G01, trivial⟩⟩ trivial I169 O169 T169 _ fun x => r169 S131.pre S131.F S132.pre S132.F x.1 x.2.1
/-- vernier/vernierref05.sign -/
abbrev I134 : Sig := [(false, .bool)]
abbrev O134 : Sig := [(false, .int .u64)]
noncomputable def t134 (a0 : Den (.bool)) : Option (DenS O134) :=
  bif a0 then
  (some ((1 : Int), ()))
  else some ((0 : Int), ())
theorem r134 (a0 : Den (.bool)) :
    run { P := Go.Proofs.Tryd.prog, sums := [], loops := [], globs := G1 } 9 134 Go.Proofs.Tryd.f134 I134 O134 (a0, ()) = t134 a0 := by kernel_rfl
noncomputable def T134 (x : DenS I134) : Option (DenS O134) := t134 x.1
noncomputable def C134 : Cfg := { P := Go.Proofs.Tryd.prog, sums := [], loops := [], globs := G1 }
noncomputable def S134 : Sum := sumOf I134 O134 T134 (DenS.dflt O134)
theorem S134_sound : Sound Go.Proofs.Tryd.prog G1 134 S134 :=
  fn_sound C134 9 134 Go.Proofs.Tryd.f134 mixedOk (by kernel_rfl) (by kernel_rfl) (by kernel_rfl) trivial trivial I134 O134 T134 _ fun x => r134 x.1
/-- vernier/vernierref04.Greatest -/
abbrev I170 : Sig := [(false, .int .i64), (false, .int .u64)]
abbrev O170 : Sig := [(false, .int .u64)]
noncomputable def t170 (p131 : DenS I131 → Bool) (f131 : DenS I131 → DenS O131) (p132 : DenS I132 → Bool) (f132 : DenS I132 → DenS O132) (a0 : Den (.int .i64)) (a1 : Den (.int .u64)) : Option (DenS O170) :=
  bif (p131 (a0, ())) then
  (bif (p132 (a0, (a1, ((Go.IntKind.wrap Go.IntKind.u64 (Go.IntKind.wrap Go.IntKind.i64 ((2 : Int) * (f131 (a0, ())).1.2.2.2.1))), ((Go.IntKind.wrap Go.IntKind.u64 ((Vx.shlI Go.IntKind.u64 (1 : Int) (Go.IntKind.wrap Go.IntKind.u64 (Go.IntKind.wrap Go.IntKind.i64 ((f131 (a0, ())).1.2.1 - (1 : Int))))) - (1 : Int))), ()))))) then
  (some (f132 (a0, (a1, ((Go.IntKind.wrap Go.IntKind.u64 (Go.IntKind.wrap Go.IntKind.i64 ((2 : Int) * (f131 (a0, ())).1.2.2.2.1))), ((Go.IntKind.wrap Go.IntKind.u64 ((Vx.shlI Go.IntKind.u64 (1 : Int) (Go.IntKind.wrap Go.IntKind.u64 (Go.IntKind.wrap Go.IntKind.i64 ((f131 (a0, ())).1.2.1 - (1 : Int))))) - (1 : Int))), ()))))))
  else none)
  else none
theorem r170 (p131 : DenS I131 → Bool) (f131 : DenS I131 → DenS O131) (p132 : DenS I132 → Bool) (f132 : DenS I132 → DenS O132) (a0 : Den (.int .i64)) (a1 : Den (.int .u64)) :
    run { P := Go.Proofs.Tryd.prog, sums := [(131, ⟨I131, O131, p131, f131⟩), (132, ⟨I132, O132, p132, f132⟩)], loops := [], globs := G1 } 9 170 Go.Proofs.Tryd.f170 I170 O170 (a0, a1, ()) = t170 p131 f131 p132 f132 a0 a1 := by kernel_rfl
noncomputable def T170 (x : DenS I170) : Option (DenS O170) := t170 S131.pre S131.F S132.pre S132.F x.1 x.2.1
noncomputable def C170 : Cfg := { P := Go.Proofs.Tryd.prog, sums := [(131, S131), (132, S132)], loops := [], globs := G1 }
noncomputable def S170 : Sum := sumOf I170 O170 T170 (DenS.dflt O170)
theorem S170_sound : Sound Go.Proofs.Tryd.prog G1 170 S170 :=
  fn_sound C170 9 170 Go.Proofs.Tryd.f170 mixedOk (by kernel_rfl) (by kernel_rfl) (by kernel_rfl) ⟨S131_sound.more G01, ⟨S132_sound.more G01, trivial⟩⟩ trivial I170 O170 T170 _ fun x => r170 S131.pre S131.F S132.pre S132.F x.1 x.2.1
/-- vernier/vernierref05.Beyond -/
abbrev I139 : Sig := [(false, .int .i64), (false, .int .i64), (false, .bool)]
abbrev O139 : Sig := [(false, .int .u64)]
noncomputable def t139 (p169 : DenS I169 → Bool) (f169 : DenS I169 → DenS O169) (p134 : DenS I134 → Bool) (f134 : DenS I134 → DenS O134) (p170 : DenS I170 → Bool) (f170 : DenS I170 → DenS O170) (a0 : Den (.int .i64)) (a1 : Den (.int .i64)) (a2 : Den (.bool)) : Option (DenS O139) :=
  bif ((((a1 == (0 : Int)) || (a1 == (1 : Int))) || ((a1 == (3 : Int)) && (!a2))) || ((a1 == (4 : Int)) && a2)) then
  (bif (p134 (a2, ())) then
  (bif (p169 (a0, (f134 (a2, ())))) then
  (some (f169 (a0, (f134 (a2, ())))))
  else none)
  else none)
  else bif (p134 (a2, ())) then
  (bif (p170 (a0, (f134 (a2, ())))) then
  (some (f170 (a0, (f134 (a2, ())))))
  else none)
  else none
theorem r139 (p169 : DenS I169 → Bool) (f169 : DenS I169 → DenS O169) (p134 : DenS I134 → Bool) (f134 : DenS I134 → DenS O134) (p170 : DenS I170 → Bool) (f170 : DenS I170 → DenS O170) (a0 : Den (.int .i64)) (a1 : Den (.int .i64)) (a2 : Den (.bool)) :
    run { P := Go.Proofs.Tryd.prog, sums := [(169, ⟨I169, O169, p169, f169⟩), (134, ⟨I134, O134, p134, f134⟩), (170, ⟨I170, O170, p170, f170⟩)], loops := [], globs := G1 } 9 139 Go.Proofs.Tryd.f139 I139 O139 (a0, a1, a2, ()) = t139 p169 f169 p134 f134 p170 f170 a0 a1 a2 := by kernel_rfl
noncomputable def T139 (x : DenS I139) : Option (DenS O139) := t139 S169.pre S169.F S134.pre S134.F S170.pre S170.F x.1 x.2.1 x.2.2.1
noncomputable def C139 : Cfg := { P := Go.Proofs.Tryd.prog, sums := [(169, S169), (134, S134), (170, S170)], loops := [], globs := G1 }
noncomputable def S139 : Sum := sumOf I139 O139 T139 (DenS.dflt O139)
theorem S139_sound : Sound Go.Proofs.Tryd.prog G1 139 S139 :=
  fn_sound C139 9 139 Go.Proofs.Tryd.f139 mixedOk (by kernel_rfl) (by kernel_rfl) (by kernel_rfl) ⟨S169_sound, ⟨S134_sound, ⟨S170_sound, trivial⟩⟩⟩ trivial I139 O139 T139 _ fun x => r139 S169.pre S169.F S134.pre S134.F S170.pre S170.F x.1 x.2.1 x.2.2.1
/-- vernier/vernierref05.chosen -/
abbrev I137 : Sig := [(false, .int .i64), (false, .bool), (false, .slice (.int .u64)), (false, .int .i64)]
abbrev O137 : Sig := [(false, .slice (.int .u64))]
noncomputable def t137 (p167 : DenS I167 → Bool) (f167 : DenS I167 → DenS O167) (p168 : DenS I168 → Bool) (f168 : DenS I168 → DenS O168) (a0 : Den (.int .i64)) (a1 : Den (.bool)) (a2 : Den (.slice (.int .u64))) (a3 : Den (.int .i64)) : Option (DenS O137) :=
  bif (p167 (a2, ((0 : Int), ()))) then
  (bif (a0 == (0 : Int)) then
  (bif ((decide (a3 > (0 : Int))) && ((a3 == (3 : Int)) || ((a3 == (2 : Int)) && ((f167 (a2, ((0 : Int), ()))).1 == (1 : Int))))) then
  (bif (p168 (a2, (((1 : Int) :: []), ()))) then
  (some (f168 (a2, (((1 : Int) :: []), ()))))
  else none)
  else some (a2, ()))
  else bif (a0 == (1 : Int)) then
  (bif ((decide (a3 > (0 : Int))) && (decide (a3 ≥ (2 : Int)))) then
  (bif (p168 (a2, (((1 : Int) :: []), ()))) then
  (some (f168 (a2, (((1 : Int) :: []), ()))))
  else none)
  else some (a2, ()))
  else bif (a0 == (3 : Int)) then
  (bif ((decide (a3 > (0 : Int))) && (!a1)) then
  (bif (p168 (a2, (((1 : Int) :: []), ()))) then
  (some (f168 (a2, (((1 : Int) :: []), ()))))
  else none)
  else some (a2, ()))
  else bif (a0 == (4 : Int)) then
  (bif ((decide (a3 > (0 : Int))) && a1) then
  (bif (p168 (a2, (((1 : Int) :: []), ()))) then
  (some (f168 (a2, (((1 : Int) :: []), ()))))
  else none)
  else some (a2, ()))
  else bif (a0 == (5 : Int)) then
  (bif ((decide (a3 > (0 : Int))) && (!((f167 (a2, ((0 : Int), ()))).1 == (1 : Int)))) then
  (bif (p168 (a2, (((1 : Int) :: []), ()))) then
  (some (f168 (a2, (((1 : Int) :: []), ()))))
  else none)
  else some (a2, ()))
  else bif ((decide (a3 > (0 : Int))) && false) then
  (bif (p168 (a2, (((1 : Int) :: []), ()))) then
  (some (f168 (a2, (((1 : Int) :: []), ()))))
  else none)
  else some (a2, ()))
  else none
theorem r137 (p167 : DenS I167 → Bool) (f167 : DenS I167 → DenS O167) (p168 : DenS I168 → Bool) (f168 : DenS I168 → DenS O168) (a0 : Den (.int .i64)) (a1 : Den (.bool)) (a2 : Den (.slice (.int .u64))) (a3 : Den (.int .i64)) :
    run { P := Go.Proofs.Tryd.prog, sums := [(167, ⟨I167, O167, p167, f167⟩), (168, ⟨I168, O168, p168, f168⟩)], loops := [], globs := G1 } 9 137 Go.Proofs.Tryd.f137 I137 O137 (a0, a1, a2, a3, ()) = t137 p167 f167 p168 f168 a0 a1 a2 a3 := by kernel_rfl
noncomputable def T137 (x : DenS I137) : Option (DenS O137) := t137 S167.pre S167.F S168.pre S168.F x.1 x.2.1 x.2.2.1 x.2.2.2.1
noncomputable def C137 : Cfg := { P := Go.Proofs.Tryd.prog, sums := [(167, S167), (168, S168)], loops := [], globs := G1 }
noncomputable def S137 : Sum := sumOf I137 O137 T137 (DenS.dflt O137)
theorem S137_sound : Sound Go.Proofs.Tryd.prog G1 137 S137 :=
  fn_sound C137 9 137 Go.Proofs.Tryd.f137 mixedOk (by kernel_rfl) (by kernel_rfl) (by kernel_rfl) ⟨S167_sound, ⟨S168_sound, trivial⟩⟩ trivial I137 O137 T137 _ fun x => r137 S167.pre S167.F S168.pre S168.F x.1 x.2.1 x.2.2.1 x.2.2.2.1
/-- vernier/vernierref05.Round -/
abbrev I88 : Sig := [(false, .int .i64), (false, .int .i64), (true, .pair (.bool) (.pair (.slice (.int .u64)) (.pair (.slice (.int .u64)) (.pair (.int .i64) (.unit)))))]
abbrev O88 : Sig := [(false, .int .u64), (false, .int .i64)]
noncomputable def t88 (p133 : DenS I133 → Bool) (f133 : DenS I133 → DenS O133) (p114 : DenS I114 → Bool) (f114 : DenS I114 → DenS O114) (p131 : DenS I131 → Bool) (f131 : DenS I131 → DenS O131) (p135 : DenS I135 → Bool) (f135 : DenS I135 → DenS O135) (p139 : DenS I139 → Bool) (f139 : DenS I139 → DenS O139) (p136 : DenS I136 → Bool) (f136 : DenS I136 → DenS O136) (p137 : DenS I137 → Bool) (f137 : DenS I137 → DenS O137) (p138 : DenS I138 → Bool) (f138 : DenS I138 → DenS O138) (p134 : DenS I134 → Bool) (f134 : DenS I134 → DenS O134) (p132 : DenS I132 → Bool) (f132 : DenS I132 → DenS O132) (a0 : Den (.int .i64)) (a1 : Den (.int .i64)) (a2 : Den (.pair (.bool) (.pair (.slice (.int .u64)) (.pair (.slice (.int .u64)) (.pair (.int .i64) (.unit)))))) : Option (DenS O88) :=
  bif (p133 (a2.2.1, ())) then
  (bif (((f133 (a2.2.1, ())).1.length : Int) == (0 : Int)) then
  (bif (p134 (a2.1, ())) then
  (bif (p114 (a0, (f134 (a2.1, ())))) then
  (some ((f114 (a0, (f134 (a2.1, ())))).1, ((0 : Int), ())))
  else none)
  else none)
  else bif (p131 (a0, ())) then
  (bif (p135 ((a2.1, a2.2), ())) then
  (bif (decide ((Go.IntKind.wrap Go.IntKind.i64 ((Go.IntKind.wrap Go.IntKind.i64 ((f135 ((a2.1, a2.2), ())).1 - (f131 (a0, ())).1.2.1)) + (1 : Int))) < (Go.IntKind.wrap Go.IntKind.i64 ((Go.IntKind.wrap Go.IntKind.i64 ((f131 (a0, ())).1.2.2.1 - (f131 (a0, ())).1.2.1)) + (1 : Int))))) then
  (bif (p136 ((a2.1, a2.2), ((Go.IntKind.wrap Go.IntKind.i64 ((Go.IntKind.wrap Go.IntKind.i64 ((f131 (a0, ())).1.2.2.1 - (f131 (a0, ())).1.2.1)) + (1 : Int))), ()))) then
  (bif (p137 (a1, (a2.1, (f136 ((a2.1, a2.2), ((Go.IntKind.wrap Go.IntKind.i64 ((Go.IntKind.wrap Go.IntKind.i64 ((f131 (a0, ())).1.2.2.1 - (f131 (a0, ())).1.2.1)) + (1 : Int))), ())))))) then
  (bif (p138 (f137 (a1, (a2.1, (f136 ((a2.1, a2.2), ((Go.IntKind.wrap Go.IntKind.i64 ((Go.IntKind.wrap Go.IntKind.i64 ((f131 (a0, ())).1.2.2.1 - (f131 (a0, ())).1.2.1)) + (1 : Int))), ()))))))) then
  (bif (decide ((Go.IntKind.wrap Go.IntKind.i64 ((f138 (f137 (a1, (a2.1, (f136 ((a2.1, a2.2), ((Go.IntKind.wrap Go.IntKind.i64 ((Go.IntKind.wrap Go.IntKind.i64 ((f131 (a0, ())).1.2.2.1 - (f131 (a0, ())).1.2.1)) + (1 : Int))), ()))))))).1 + (Go.IntKind.wrap Go.IntKind.i64 ((Go.IntKind.wrap Go.IntKind.i64 ((f131 (a0, ())).1.2.2.1 - (f131 (a0, ())).1.2.1)) + (1 : Int))))) > (Go.IntKind.wrap Go.IntKind.i64 ((f131 (a0, ())).1.2.2.2.1 + (1 : Int))))) then
  (bif (p139 (a0, (a1, (a2.1, ())))) then
  (some ((f139 (a0, (a1, (a2.1, ())))).1, ((20 : Int), ())))
  else none)
  else bif (decide ((f136 ((a2.1, a2.2), ((Go.IntKind.wrap Go.IntKind.i64 ((Go.IntKind.wrap Go.IntKind.i64 ((f131 (a0, ())).1.2.2.1 - (f131 (a0, ())).1.2.1)) + (1 : Int))), ()))).2.1 > (0 : Int))) then
  (bif (p136 ((a2.1, a2.2), ((Go.IntKind.wrap Go.IntKind.i64 ((Go.IntKind.wrap Go.IntKind.i64 ((f135 ((a2.1, a2.2), ())).1 - (f131 (a0, ())).1.2.1)) + (1 : Int))), ()))) then
  (bif (p137 (a1, (a2.1, (f136 ((a2.1, a2.2), ((Go.IntKind.wrap Go.IntKind.i64 ((Go.IntKind.wrap Go.IntKind.i64 ((f135 ((a2.1, a2.2), ())).1 - (f131 (a0, ())).1.2.1)) + (1 : Int))), ())))))) then
  (bif (p138 (f137 (a1, (a2.1, (f136 ((a2.1, a2.2), ((Go.IntKind.wrap Go.IntKind.i64 ((Go.IntKind.wrap Go.IntKind.i64 ((f135 ((a2.1, a2.2), ())).1 - (f131 (a0, ())).1.2.1)) + (1 : Int))), ()))))))) then
  (bif (decide ((Go.IntKind.wrap Go.IntKind.i64 ((Go.IntKind.wrap Go.IntKind.i64 ((Go.IntKind.wrap Go.IntKind.i64 ((f138 (f137 (a1, (a2.1, (f136 ((a2.1, a2.2), ((Go.IntKind.wrap Go.IntKind.i64 ((Go.IntKind.wrap Go.IntKind.i64 ((f135 ((a2.1, a2.2), ())).1 - (f131 (a0, ())).1.2.1)) + (1 : Int))), ()))))))).1 + (f135 ((a2.1, a2.2), ())).1)) - (f131 (a0, ())).1.2.1)) + (1 : Int))) ≤ (f131 (a0, ())).1.2.2.1)) then
  (bif (decide (((f137 (a1, (a2.1, (f136 ((a2.1, a2.2), ((Go.IntKind.wrap Go.IntKind.i64 ((Go.IntKind.wrap Go.IntKind.i64 ((f131 (a0, ())).1.2.2.1 - (f131 (a0, ())).1.2.1)) + (1 : Int))), ())))))).1.length : Int) > (0 : Int))) then
  (bif (decide ((0 : Int) < ((f137 (a1, (a2.1, (f136 ((a2.1, a2.2), ((Go.IntKind.wrap Go.IntKind.i64 ((Go.IntKind.wrap Go.IntKind.i64 ((f131 (a0, ())).1.2.2.1 - (f131 (a0, ())).1.2.1)) + (1 : Int))), ())))))).1.length : Int))) then
  (bif (p134 (a2.1, ())) then
  (bif (p132 (a0, ((f134 (a2.1, ())).1, ((0 : Int), ((0 : Int), ()))))) then
  (some ((Vx.orI Go.IntKind.u64 (f132 (a0, ((f134 (a2.1, ())).1, ((0 : Int), ((0 : Int), ()))))).1 (Go.IntKind.wrap Go.IntKind.u64 ((Vx.shlI Go.IntKind.u64 (Go.IntKind.wrap Go.IntKind.u64 (Go.IntKind.wrap Go.IntKind.i64 ((Go.IntKind.wrap Go.IntKind.i64 ((Go.IntKind.wrap Go.IntKind.i64 ((f131 (a0, ())).1.2.2.1 - (f131 (a0, ())).1.2.1)) + (1 : Int))) - (Go.IntKind.wrap Go.IntKind.i64 ((Go.IntKind.wrap Go.IntKind.i64 ((f131 (a0, ())).1.2.2.1 - (f131 (a0, ())).1.2.1)) + (1 : Int)))))) (Go.IntKind.wrap Go.IntKind.u64 (Go.IntKind.wrap Go.IntKind.i64 ((f131 (a0, ())).1.2.1 - (1 : Int))))) + ((f137 (a1, (a2.1, (f136 ((a2.1, a2.2), ((Go.IntKind.wrap Go.IntKind.i64 ((Go.IntKind.wrap Go.IntKind.i64 ((f131 (a0, ())).1.2.2.1 - (f131 (a0, ())).1.2.1)) + (1 : Int))), ())))))).1.getD (Int.toNat (0 : Int)) (0 : Int))))), ((24 : Int), ())))
  else none)
  else none)
  else none)
  else bif (p134 (a2.1, ())) then
  (bif (p132 (a0, ((f134 (a2.1, ())).1, ((0 : Int), ((0 : Int), ()))))) then
  (some ((Vx.orI Go.IntKind.u64 (f132 (a0, ((f134 (a2.1, ())).1, ((0 : Int), ((0 : Int), ()))))).1 (Go.IntKind.wrap Go.IntKind.u64 ((Vx.shlI Go.IntKind.u64 (Go.IntKind.wrap Go.IntKind.u64 (Go.IntKind.wrap Go.IntKind.i64 ((Go.IntKind.wrap Go.IntKind.i64 ((Go.IntKind.wrap Go.IntKind.i64 ((f131 (a0, ())).1.2.2.1 - (f131 (a0, ())).1.2.1)) + (1 : Int))) - (Go.IntKind.wrap Go.IntKind.i64 ((Go.IntKind.wrap Go.IntKind.i64 ((f131 (a0, ())).1.2.2.1 - (f131 (a0, ())).1.2.1)) + (1 : Int)))))) (Go.IntKind.wrap Go.IntKind.u64 (Go.IntKind.wrap Go.IntKind.i64 ((f131 (a0, ())).1.2.1 - (1 : Int))))) + (0 : Int)))), ((24 : Int), ())))
  else none)
  else none)
  else bif (decide (((f137 (a1, (a2.1, (f136 ((a2.1, a2.2), ((Go.IntKind.wrap Go.IntKind.i64 ((Go.IntKind.wrap Go.IntKind.i64 ((f131 (a0, ())).1.2.2.1 - (f131 (a0, ())).1.2.1)) + (1 : Int))), ())))))).1.length : Int) > (0 : Int))) then
  (bif (decide ((0 : Int) < ((f137 (a1, (a2.1, (f136 ((a2.1, a2.2), ((Go.IntKind.wrap Go.IntKind.i64 ((Go.IntKind.wrap Go.IntKind.i64 ((f131 (a0, ())).1.2.2.1 - (f131 (a0, ())).1.2.1)) + (1 : Int))), ())))))).1.length : Int))) then
  (bif (p134 (a2.1, ())) then
  (bif (p132 (a0, ((f134 (a2.1, ())).1, ((0 : Int), ((0 : Int), ()))))) then
  (some ((Vx.orI Go.IntKind.u64 (f132 (a0, ((f134 (a2.1, ())).1, ((0 : Int), ((0 : Int), ()))))).1 (Go.IntKind.wrap Go.IntKind.u64 ((Vx.shlI Go.IntKind.u64 (Go.IntKind.wrap Go.IntKind.u64 (Go.IntKind.wrap Go.IntKind.i64 ((Go.IntKind.wrap Go.IntKind.i64 ((Go.IntKind.wrap Go.IntKind.i64 ((f131 (a0, ())).1.2.2.1 - (f131 (a0, ())).1.2.1)) + (1 : Int))) - (Go.IntKind.wrap Go.IntKind.i64 ((Go.IntKind.wrap Go.IntKind.i64 ((f131 (a0, ())).1.2.2.1 - (f131 (a0, ())).1.2.1)) + (1 : Int)))))) (Go.IntKind.wrap Go.IntKind.u64 (Go.IntKind.wrap Go.IntKind.i64 ((f131 (a0, ())).1.2.1 - (1 : Int))))) + ((f137 (a1, (a2.1, (f136 ((a2.1, a2.2), ((Go.IntKind.wrap Go.IntKind.i64 ((Go.IntKind.wrap Go.IntKind.i64 ((f131 (a0, ())).1.2.2.1 - (f131 (a0, ())).1.2.1)) + (1 : Int))), ())))))).1.getD (Int.toNat (0 : Int)) (0 : Int))))), ((16 : Int), ())))
  else none)
  else none)
  else none)
  else bif (p134 (a2.1, ())) then
  (bif (p132 (a0, ((f134 (a2.1, ())).1, ((0 : Int), ((0 : Int), ()))))) then
  (some ((Vx.orI Go.IntKind.u64 (f132 (a0, ((f134 (a2.1, ())).1, ((0 : Int), ((0 : Int), ()))))).1 (Go.IntKind.wrap Go.IntKind.u64 ((Vx.shlI Go.IntKind.u64 (Go.IntKind.wrap Go.IntKind.u64 (Go.IntKind.wrap Go.IntKind.i64 ((Go.IntKind.wrap Go.IntKind.i64 ((Go.IntKind.wrap Go.IntKind.i64 ((f131 (a0, ())).1.2.2.1 - (f131 (a0, ())).1.2.1)) + (1 : Int))) - (Go.IntKind.wrap Go.IntKind.i64 ((Go.IntKind.wrap Go.IntKind.i64 ((f131 (a0, ())).1.2.2.1 - (f131 (a0, ())).1.2.1)) + (1 : Int)))))) (Go.IntKind.wrap Go.IntKind.u64 (Go.IntKind.wrap Go.IntKind.i64 ((f131 (a0, ())).1.2.1 - (1 : Int))))) + (0 : Int)))), ((16 : Int), ())))
  else none)
  else none)
  else none)
  else none)
  else none)
  else bif (decide (((f137 (a1, (a2.1, (f136 ((a2.1, a2.2), ((Go.IntKind.wrap Go.IntKind.i64 ((Go.IntKind.wrap Go.IntKind.i64 ((f131 (a0, ())).1.2.2.1 - (f131 (a0, ())).1.2.1)) + (1 : Int))), ())))))).1.length : Int) > (0 : Int))) then
  (bif (decide ((0 : Int) < ((f137 (a1, (a2.1, (f136 ((a2.1, a2.2), ((Go.IntKind.wrap Go.IntKind.i64 ((Go.IntKind.wrap Go.IntKind.i64 ((f131 (a0, ())).1.2.2.1 - (f131 (a0, ())).1.2.1)) + (1 : Int))), ())))))).1.length : Int))) then
  (bif (p134 (a2.1, ())) then
  (bif (p132 (a0, ((f134 (a2.1, ())).1, ((0 : Int), ((0 : Int), ()))))) then
  (some ((Vx.orI Go.IntKind.u64 (f132 (a0, ((f134 (a2.1, ())).1, ((0 : Int), ((0 : Int), ()))))).1 (Go.IntKind.wrap Go.IntKind.u64 ((Vx.shlI Go.IntKind.u64 (Go.IntKind.wrap Go.IntKind.u64 (Go.IntKind.wrap Go.IntKind.i64 ((Go.IntKind.wrap Go.IntKind.i64 ((Go.IntKind.wrap Go.IntKind.i64 ((f131 (a0, ())).1.2.2.1 - (f131 (a0, ())).1.2.1)) + (1 : Int))) - (Go.IntKind.wrap Go.IntKind.i64 ((Go.IntKind.wrap Go.IntKind.i64 ((f131 (a0, ())).1.2.2.1 - (f131 (a0, ())).1.2.1)) + (1 : Int)))))) (Go.IntKind.wrap Go.IntKind.u64 (Go.IntKind.wrap Go.IntKind.i64 ((f131 (a0, ())).1.2.1 - (1 : Int))))) + ((f137 (a1, (a2.1, (f136 ((a2.1, a2.2), ((Go.IntKind.wrap Go.IntKind.i64 ((Go.IntKind.wrap Go.IntKind.i64 ((f131 (a0, ())).1.2.2.1 - (f131 (a0, ())).1.2.1)) + (1 : Int))), ())))))).1.getD (Int.toNat (0 : Int)) (0 : Int))))), ((0 : Int), ())))
  else none)
  else none)
  else none)
  else bif (p134 (a2.1, ())) then
  (bif (p132 (a0, ((f134 (a2.1, ())).1, ((0 : Int), ((0 : Int), ()))))) then
  (some ((Vx.orI Go.IntKind.u64 (f132 (a0, ((f134 (a2.1, ())).1, ((0 : Int), ((0 : Int), ()))))).1 (Go.IntKind.wrap Go.IntKind.u64 ((Vx.shlI Go.IntKind.u64 (Go.IntKind.wrap Go.IntKind.u64 (Go.IntKind.wrap Go.IntKind.i64 ((Go.IntKind.wrap Go.IntKind.i64 ((Go.IntKind.wrap Go.IntKind.i64 ((f131 (a0, ())).1.2.2.1 - (f131 (a0, ())).1.2.1)) + (1 : Int))) - (Go.IntKind.wrap Go.IntKind.i64 ((Go.IntKind.wrap Go.IntKind.i64 ((f131 (a0, ())).1.2.2.1 - (f131 (a0, ())).1.2.1)) + (1 : Int)))))) (Go.IntKind.wrap Go.IntKind.u64 (Go.IntKind.wrap Go.IntKind.i64 ((f131 (a0, ())).1.2.1 - (1 : Int))))) + (0 : Int)))), ((0 : Int), ())))
  else none)
  else none)
  else none)
  else none)
  else none)
  else bif (p136 ((a2.1, a2.2), ((Go.IntKind.wrap Go.IntKind.i64 ((Go.IntKind.wrap Go.IntKind.i64 ((f135 ((a2.1, a2.2), ())).1 - (f131 (a0, ())).1.2.1)) + (1 : Int))), ()))) then
  (bif (p137 (a1, (a2.1, (f136 ((a2.1, a2.2), ((Go.IntKind.wrap Go.IntKind.i64 ((Go.IntKind.wrap Go.IntKind.i64 ((f135 ((a2.1, a2.2), ())).1 - (f131 (a0, ())).1.2.1)) + (1 : Int))), ())))))) then
  (bif (p138 (f137 (a1, (a2.1, (f136 ((a2.1, a2.2), ((Go.IntKind.wrap Go.IntKind.i64 ((Go.IntKind.wrap Go.IntKind.i64 ((f135 ((a2.1, a2.2), ())).1 - (f131 (a0, ())).1.2.1)) + (1 : Int))), ()))))))) then
  (bif (decide ((Go.IntKind.wrap Go.IntKind.i64 ((f138 (f137 (a1, (a2.1, (f136 ((a2.1, a2.2), ((Go.IntKind.wrap Go.IntKind.i64 ((Go.IntKind.wrap Go.IntKind.i64 ((f135 ((a2.1, a2.2), ())).1 - (f131 (a0, ())).1.2.1)) + (1 : Int))), ()))))))).1 + (Go.IntKind.wrap Go.IntKind.i64 ((Go.IntKind.wrap Go.IntKind.i64 ((f135 ((a2.1, a2.2), ())).1 - (f131 (a0, ())).1.2.1)) + (1 : Int))))) > (Go.IntKind.wrap Go.IntKind.i64 ((f131 (a0, ())).1.2.2.2.1 + (1 : Int))))) then
  (bif (p139 (a0, (a1, (a2.1, ())))) then
  (some ((f139 (a0, (a1, (a2.1, ())))).1, ((20 : Int), ())))
  else none)
  else bif (decide ((f136 ((a2.1, a2.2), ((Go.IntKind.wrap Go.IntKind.i64 ((Go.IntKind.wrap Go.IntKind.i64 ((f135 ((a2.1, a2.2), ())).1 - (f131 (a0, ())).1.2.1)) + (1 : Int))), ()))).2.1 > (0 : Int))) then
  (bif (p136 ((a2.1, a2.2), ((Go.IntKind.wrap Go.IntKind.i64 ((Go.IntKind.wrap Go.IntKind.i64 ((f135 ((a2.1, a2.2), ())).1 - (f131 (a0, ())).1.2.1)) + (1 : Int))), ()))) then
  (bif (p137 (a1, (a2.1, (f136 ((a2.1, a2.2), ((Go.IntKind.wrap Go.IntKind.i64 ((Go.IntKind.wrap Go.IntKind.i64 ((f135 ((a2.1, a2.2), ())).1 - (f131 (a0, ())).1.2.1)) + (1 : Int))), ())))))) then
  (bif (p138 (f137 (a1, (a2.1, (f136 ((a2.1, a2.2), ((Go.IntKind.wrap Go.IntKind.i64 ((Go.IntKind.wrap Go.IntKind.i64 ((f135 ((a2.1, a2.2), ())).1 - (f131 (a0, ())).1.2.1)) + (1 : Int))), ()))))))) then
  (bif (decide ((Go.IntKind.wrap Go.IntKind.i64 ((Go.IntKind.wrap Go.IntKind.i64 ((Go.IntKind.wrap Go.IntKind.i64 ((f138 (f137 (a1, (a2.1, (f136 ((a2.1, a2.2), ((Go.IntKind.wrap Go.IntKind.i64 ((Go.IntKind.wrap Go.IntKind.i64 ((f135 ((a2.1, a2.2), ())).1 - (f131 (a0, ())).1.2.1)) + (1 : Int))), ()))))))).1 + (f135 ((a2.1, a2.2), ())).1)) - (f131 (a0, ())).1.2.1)) + (1 : Int))) ≤ (f131 (a0, ())).1.2.2.1)) then
  (bif (decide (((f137 (a1, (a2.1, (f136 ((a2.1, a2.2), ((Go.IntKind.wrap Go.IntKind.i64 ((Go.IntKind.wrap Go.IntKind.i64 ((f135 ((a2.1, a2.2), ())).1 - (f131 (a0, ())).1.2.1)) + (1 : Int))), ())))))).1.length : Int) > (0 : Int))) then
  (bif (decide ((0 : Int) < ((f137 (a1, (a2.1, (f136 ((a2.1, a2.2), ((Go.IntKind.wrap Go.IntKind.i64 ((Go.IntKind.wrap Go.IntKind.i64 ((f135 ((a2.1, a2.2), ())).1 - (f131 (a0, ())).1.2.1)) + (1 : Int))), ())))))).1.length : Int))) then
  (bif (p134 (a2.1, ())) then
  (bif (p132 (a0, ((f134 (a2.1, ())).1, ((0 : Int), ((0 : Int), ()))))) then
  (some ((Vx.orI Go.IntKind.u64 (f132 (a0, ((f134 (a2.1, ())).1, ((0 : Int), ((0 : Int), ()))))).1 (Go.IntKind.wrap Go.IntKind.u64 ((Vx.shlI Go.IntKind.u64 (Go.IntKind.wrap Go.IntKind.u64 (Go.IntKind.wrap Go.IntKind.i64 ((Go.IntKind.wrap Go.IntKind.i64 ((Go.IntKind.wrap Go.IntKind.i64 ((f135 ((a2.1, a2.2), ())).1 - (f131 (a0, ())).1.2.1)) + (1 : Int))) - (Go.IntKind.wrap Go.IntKind.i64 ((Go.IntKind.wrap Go.IntKind.i64 ((f131 (a0, ())).1.2.2.1 - (f131 (a0, ())).1.2.1)) + (1 : Int)))))) (Go.IntKind.wrap Go.IntKind.u64 (Go.IntKind.wrap Go.IntKind.i64 ((f131 (a0, ())).1.2.1 - (1 : Int))))) + ((f137 (a1, (a2.1, (f136 ((a2.1, a2.2), ((Go.IntKind.wrap Go.IntKind.i64 ((Go.IntKind.wrap Go.IntKind.i64 ((f135 ((a2.1, a2.2), ())).1 - (f131 (a0, ())).1.2.1)) + (1 : Int))), ())))))).1.getD (Int.toNat (0 : Int)) (0 : Int))))), ((24 : Int), ())))
  else none)
  else none)
  else none)
  else bif (p134 (a2.1, ())) then
  (bif (p132 (a0, ((f134 (a2.1, ())).1, ((0 : Int), ((0 : Int), ()))))) then
  (some ((Vx.orI Go.IntKind.u64 (f132 (a0, ((f134 (a2.1, ())).1, ((0 : Int), ((0 : Int), ()))))).1 (Go.IntKind.wrap Go.IntKind.u64 ((Vx.shlI Go.IntKind.u64 (Go.IntKind.wrap Go.IntKind.u64 (Go.IntKind.wrap Go.IntKind.i64 ((Go.IntKind.wrap Go.IntKind.i64 ((Go.IntKind.wrap Go.IntKind.i64 ((f135 ((a2.1, a2.2), ())).1 - (f131 (a0, ())).1.2.1)) + (1 : Int))) - (Go.IntKind.wrap Go.IntKind.i64 ((Go.IntKind.wrap Go.IntKind.i64 ((f131 (a0, ())).1.2.2.1 - (f131 (a0, ())).1.2.1)) + (1 : Int)))))) (Go.IntKind.wrap Go.IntKind.u64 (Go.IntKind.wrap Go.IntKind.i64 ((f131 (a0, ())).1.2.1 - (1 : Int))))) + (0 : Int)))), ((24 : Int), ())))
  else none)
  else none)
  else bif (decide (((f137 (a1, (a2.1, (f136 ((a2.1, a2.2), ((Go.IntKind.wrap Go.IntKind.i64 ((Go.IntKind.wrap Go.IntKind.i64 ((f135 ((a2.1, a2.2), ())).1 - (f131 (a0, ())).1.2.1)) + (1 : Int))), ())))))).1.length : Int) > (0 : Int))) then
  (bif (decide ((0 : Int) < ((f137 (a1, (a2.1, (f136 ((a2.1, a2.2), ((Go.IntKind.wrap Go.IntKind.i64 ((Go.IntKind.wrap Go.IntKind.i64 ((f135 ((a2.1, a2.2), ())).1 - (f131 (a0, ())).1.2.1)) + (1 : Int))), ())))))).1.length : Int))) then
  (bif (p134 (a2.1, ())) then
  (bif (p132 (a0, ((f134 (a2.1, ())).1, ((0 : Int), ((0 : Int), ()))))) then
  (some ((Vx.orI Go.IntKind.u64 (f132 (a0, ((f134 (a2.1, ())).1, ((0 : Int), ((0 : Int), ()))))).1 (Go.IntKind.wrap Go.IntKind.u64 ((Vx.shlI Go.IntKind.u64 (Go.IntKind.wrap Go.IntKind.u64 (Go.IntKind.wrap Go.IntKind.i64 ((Go.IntKind.wrap Go.IntKind.i64 ((Go.IntKind.wrap Go.IntKind.i64 ((f135 ((a2.1, a2.2), ())).1 - (f131 (a0, ())).1.2.1)) + (1 : Int))) - (Go.IntKind.wrap Go.IntKind.i64 ((Go.IntKind.wrap Go.IntKind.i64 ((f131 (a0, ())).1.2.2.1 - (f131 (a0, ())).1.2.1)) + (1 : Int)))))) (Go.IntKind.wrap Go.IntKind.u64 (Go.IntKind.wrap Go.IntKind.i64 ((f131 (a0, ())).1.2.1 - (1 : Int))))) + ((f137 (a1, (a2.1, (f136 ((a2.1, a2.2), ((Go.IntKind.wrap Go.IntKind.i64 ((Go.IntKind.wrap Go.IntKind.i64 ((f135 ((a2.1, a2.2), ())).1 - (f131 (a0, ())).1.2.1)) + (1 : Int))), ())))))).1.getD (Int.toNat (0 : Int)) (0 : Int))))), ((16 : Int), ())))
  else none)
  else none)
  else none)
  else bif (p134 (a2.1, ())) then
  (bif (p132 (a0, ((f134 (a2.1, ())).1, ((0 : Int), ((0 : Int), ()))))) then
  (some ((Vx.orI Go.IntKind.u64 (f132 (a0, ((f134 (a2.1, ())).1, ((0 : Int), ((0 : Int), ()))))).1 (Go.IntKind.wrap Go.IntKind.u64 ((Vx.shlI Go.IntKind.u64 (Go.IntKind.wrap Go.IntKind.u64 (Go.IntKind.wrap Go.IntKind.i64 ((Go.IntKind.wrap Go.IntKind.i64 ((Go.IntKind.wrap Go.IntKind.i64 ((f135 ((a2.1, a2.2), ())).1 - (f131 (a0, ())).1.2.1)) + (1 : Int))) - (Go.IntKind.wrap Go.IntKind.i64 ((Go.IntKind.wrap Go.IntKind.i64 ((f131 (a0, ())).1.2.2.1 - (f131 (a0, ())).1.2.1)) + (1 : Int)))))) (Go.IntKind.wrap Go.IntKind.u64 (Go.IntKind.wrap Go.IntKind.i64 ((f131 (a0, ())).1.2.1 - (1 : Int))))) + (0 : Int)))), ((16 : Int), ())))
  else none)
  else none)
  else none)
  else none)
  else none)
  else bif (decide (((f137 (a1, (a2.1, (f136 ((a2.1, a2.2), ((Go.IntKind.wrap Go.IntKind.i64 ((Go.IntKind.wrap Go.IntKind.i64 ((f135 ((a2.1, a2.2), ())).1 - (f131 (a0, ())).1.2.1)) + (1 : Int))), ())))))).1.length : Int) > (0 : Int))) then
  (bif (decide ((0 : Int) < ((f137 (a1, (a2.1, (f136 ((a2.1, a2.2), ((Go.IntKind.wrap Go.IntKind.i64 ((Go.IntKind.wrap Go.IntKind.i64 ((f135 ((a2.1, a2.2), ())).1 - (f131 (a0, ())).1.2.1)) + (1 : Int))), ())))))).1.length : Int))) then
  (bif (p134 (a2.1, ())) then
  (bif (p132 (a0, ((f134 (a2.1, ())).1, ((0 : Int), ((0 : Int), ()))))) then
  (some ((Vx.orI Go.IntKind.u64 (f132 (a0, ((f134 (a2.1, ())).1, ((0 : Int), ((0 : Int), ()))))).1 (Go.IntKind.wrap Go.IntKind.u64 ((Vx.shlI Go.IntKind.u64 (Go.IntKind.wrap Go.IntKind.u64 (Go.IntKind.wrap Go.IntKind.i64 ((Go.IntKind.wrap Go.IntKind.i64 ((Go.IntKind.wrap Go.IntKind.i64 ((f135 ((a2.1, a2.2), ())).1 - (f131 (a0, ())).1.2.1)) + (1 : Int))) - (Go.IntKind.wrap Go.IntKind.i64 ((Go.IntKind.wrap Go.IntKind.i64 ((f131 (a0, ())).1.2.2.1 - (f131 (a0, ())).1.2.1)) + (1 : Int)))))) (Go.IntKind.wrap Go.IntKind.u64 (Go.IntKind.wrap Go.IntKind.i64 ((f131 (a0, ())).1.2.1 - (1 : Int))))) + ((f137 (a1, (a2.1, (f136 ((a2.1, a2.2), ((Go.IntKind.wrap Go.IntKind.i64 ((Go.IntKind.wrap Go.IntKind.i64 ((f135 ((a2.1, a2.2), ())).1 - (f131 (a0, ())).1.2.1)) + (1 : Int))), ())))))).1.getD (Int.toNat (0 : Int)) (0 : Int))))), ((0 : Int), ())))
  else none)
  else none)
  else none)
  else bif (p134 (a2.1, ())) then
  (bif (p132 (a0, ((f134 (a2.1, ())).1, ((0 : Int), ((0 : Int), ()))))) then
  (some ((Vx.orI Go.IntKind.u64 (f132 (a0, ((f134 (a2.1, ())).1, ((0 : Int), ((0 : Int), ()))))).1 (Go.IntKind.wrap Go.IntKind.u64 ((Vx.shlI Go.IntKind.u64 (Go.IntKind.wrap Go.IntKind.u64 (Go.IntKind.wrap Go.IntKind.i64 ((Go.IntKind.wrap Go.IntKind.i64 ((Go.IntKind.wrap Go.IntKind.i64 ((f135 ((a2.1, a2.2), ())).1 - (f131 (a0, ())).1.2.1)) + (1 : Int))) - (Go.IntKind.wrap Go.IntKind.i64 ((Go.IntKind.wrap Go.IntKind.i64 ((f131 (a0, ())).1.2.2.1 - (f131 (a0, ())).1.2.1)) + (1 : Int)))))) (Go.IntKind.wrap Go.IntKind.u64 (Go.IntKind.wrap Go.IntKind.i64 ((f131 (a0, ())).1.2.1 - (1 : Int))))) + (0 : Int)))), ((0 : Int), ())))
  else none)
  else none)
  else none)
  else none)
  else none)
  else none)
  else none)
  else none
theorem r88 (p133 : DenS I133 → Bool) (f133 : DenS I133 → DenS O133) (p114 : DenS I114 → Bool) (f114 : DenS I114 → DenS O114) (p131 : DenS I131 → Bool) (f131 : DenS I131 → DenS O131) (p135 : DenS I135 → Bool) (f135 : DenS I135 → DenS O135) (p139 : DenS I139 → Bool) (f139 : DenS I139 → DenS O139) (p136 : DenS I136 → Bool) (f136 : DenS I136 → DenS O136) (p137 : DenS I137 → Bool) (f137 : DenS I137 → DenS O137) (p138 : DenS I138 → Bool) (f138 : DenS I138 → DenS O138) (p134 : DenS I134 → Bool) (f134 : DenS I134 → DenS O134) (p132 : DenS I132 → Bool) (f132 : DenS I132 → DenS O132) (a0 : Den (.int .i64)) (a1 : Den (.int .i64)) (a2 : Den (.pair (.bool) (.pair (.slice (.int .u64)) (.pair (.slice (.int .u64)) (.pair (.int .i64) (.unit)))))) :
    run { P := Go.Proofs.Tryd.prog, sums := [(133, ⟨I133, O133, p133, f133⟩), (114, ⟨I114, O114, p114, f114⟩), (131, ⟨I131, O131, p131, f131⟩), (135, ⟨I135, O135, p135, f135⟩), (139, ⟨I139, O139, p139, f139⟩), (136, ⟨I136, O136, p136, f136⟩), (137, ⟨I137, O137, p137, f137⟩), (138, ⟨I138, O138, p138, f138⟩), (134, ⟨I134, O134, p134, f134⟩), (132, ⟨I132, O132, p132, f132⟩)], loops := [], globs := G1 } 9 88 Go.Proofs.Tryd.f88 I88 O88 (a0, a1, a2, ()) = t88 p133 f133 p114 f114 p131 f131 p135 f135 p139 f139 p136 f136 p137 f137 p138 f138 p134 f134 p132 f132 a0 a1 a2 := by kernel_rfl
noncomputable def T88 (x : DenS I88) : Option (DenS O88) := t88 S133.pre S133.F S114.pre S114.F S131.pre S131.F S135.pre S135.F S139.pre S139.F S136.pre S136.F S137.pre S137.F S138.pre S138.F S134.pre S134.F S132.pre S132.F x.1 x.2.1 x.2.2.1
noncomputable def C88 : Cfg := { P := Go.Proofs.Tryd.prog, sums := [(133, S133), (114, S114), (131, S131), (135, S135), (139, S139), (136, S136), (137, S137), (138, S138), (134, S134), (132, S132)], loops := [], globs := G1 }
noncomputable def S88 : Sum := sumOf I88 O88 T88 (DenS.dflt O88)
theorem S88_sound : Sound Go.Proofs.Tryd.prog G1 88 S88 :=
  fn_sound C88 9 88 Go.Proofs.Tryd.f88 mixedOk (by kernel_rfl) (by kernel_rfl) (by kernel_rfl) ⟨S133_sound, ⟨S114_sound.more G01, ⟨S131_sound.more G01, ⟨S135_sound, ⟨S139_sound, ⟨S136_sound, ⟨S137_sound, ⟨S138_sound, ⟨S134_sound, ⟨S132_sound.more G01, trivial⟩⟩⟩⟩⟩⟩⟩⟩⟩⟩ trivial I88 O88 T88 _ fun x => r88 S133.pre S133.F S114.pre S114.F S131.pre S131.F S135.pre S135.F S139.pre S139.F S136.pre S136.F S137.pre S137.F S138.pre S138.F S134.pre S134.F S132.pre S132.F x.1 x.2.1 x.2.2.1
/-- vernier/vernierref13.Scale -/
abbrev I39 : Sig := [(false, .int .i64), (false, .int .i64), (false, .int .u64), (false, .int .i64)]
abbrev O39 : Sig := [(false, .int .u64), (false, .int .i64), (false, .int .i64)]
noncomputable def t39 (p83 : DenS I83 → Bool) (f83 : DenS I83 → DenS O83) (p56 : DenS I56 → Bool) (f56 : DenS I56 → DenS O56) (p84 : DenS I84 → Bool) (f84 : DenS I84 → DenS O84) (p85 : DenS I85 → Bool) (f85 : DenS I85 → DenS O85) (p86 : DenS I86 → Bool) (f86 : DenS I86 → DenS O86) (p87 : DenS I87 → Bool) (f87 : DenS I87 → DenS O87) (p59 : DenS I59 → Bool) (f59 : DenS I59 → DenS O59) (p89 : DenS I89 → Bool) (f89 : DenS I89 → DenS O89) (p88 : DenS I88 → Bool) (f88 : DenS I88 → DenS O88) (a0 : Den (.int .i64)) (a1 : Den (.int .i64)) (a2 : Den (.int .u64)) (a3 : Den (.int .i64)) : Option (DenS O39) :=
  bif (p83 (a0, (a1, ((a2 :: []), ())))) then
  (bif ((f83 (a0, (a1, ((a2 :: []), ())))).1 != (0 : Int)) then
  (some ((0 : Int), ((0 : Int), (f83 (a0, (a1, ((a2 :: []), ())))))))
  else bif (p56 (a0, ((a2 :: []), ()))) then
  (bif (f56 (a0, ((a2 :: []), ()))).1 then
  (bif (p84 (a0, ())) then
  (some ((f84 (a0, ())).1, ((f56 (a0, ((a2 :: []), ()))).2.1, ((0 : Int), ()))))
  else none)
  else bif (p85 (a0, (a2, ()))) then
  (bif ((p86 (a0, (a2, ()))) || (!(bif (f85 (a0, (a2, ()))).1 then false else true))) then
  (bif ((f85 (a0, (a2, ()))).1 || (f86 (a0, (a2, ()))).1) then
  (some (a2, ((0 : Int), ((0 : Int), ()))))
  else bif (p87 (a0, (a2, ()))) then
  (bif (p59 (a0, (a2, ()))) then
  (bif (p89 (((f59 (a0, (a2, ()))).1 == (1 : Int)), (((f87 (a0, (a2, ()))).1 :: []), ((Go.IntKind.wrap Go.IntKind.i64 ((f87 (a0, (a2, ()))).2.1 + (if ((if ((5000 : Int) < a3) then (5000 : Int) else a3) > (-(5000 : Int))) then (if ((5000 : Int) < a3) then (5000 : Int) else a3) else (-(5000 : Int))))), ())))) then
  (bif (p88 (a0, (a1, (f89 (((f59 (a0, (a2, ()))).1 == (1 : Int)), (((f87 (a0, (a2, ()))).1 :: []), ((Go.IntKind.wrap Go.IntKind.i64 ((f87 (a0, (a2, ()))).2.1 + (if ((if ((5000 : Int) < a3) then (5000 : Int) else a3) > (-(5000 : Int))) then (if ((5000 : Int) < a3) then (5000 : Int) else a3) else (-(5000 : Int))))), ()))))))) then
  (some ((f88 (a0, (a1, (f89 (((f59 (a0, (a2, ()))).1 == (1 : Int)), (((f87 (a0, (a2, ()))).1 :: []), ((Go.IntKind.wrap Go.IntKind.i64 ((f87 (a0, (a2, ()))).2.1 + (if ((if ((5000 : Int) < a3) then (5000 : Int) else a3) > (-(5000 : Int))) then (if ((5000 : Int) < a3) then (5000 : Int) else a3) else (-(5000 : Int))))), ()))))))).1, ((f88 (a0, (a1, (f89 (((f59 (a0, (a2, ()))).1 == (1 : Int)), (((f87 (a0, (a2, ()))).1 :: []), ((Go.IntKind.wrap Go.IntKind.i64 ((f87 (a0, (a2, ()))).2.1 + (if ((if ((5000 : Int) < a3) then (5000 : Int) else a3) > (-(5000 : Int))) then (if ((5000 : Int) < a3) then (5000 : Int) else a3) else (-(5000 : Int))))), ()))))))).2.1, ((0 : Int), ()))))
  else none)
  else none)
  else none)
  else none)
  else none)
  else none)
  else none)
  else none
theorem r39 (p83 : DenS I83 → Bool) (f83 : DenS I83 → DenS O83) (p56 : DenS I56 → Bool) (f56 : DenS I56 → DenS O56) (p84 : DenS I84 → Bool) (f84 : DenS I84 → DenS O84) (p85 : DenS I85 → Bool) (f85 : DenS I85 → DenS O85) (p86 : DenS I86 → Bool) (f86 : DenS I86 → DenS O86) (p87 : DenS I87 → Bool) (f87 : DenS I87 → DenS O87) (p59 : DenS I59 → Bool) (f59 : DenS I59 → DenS O59) (p89 : DenS I89 → Bool) (f89 : DenS I89 → DenS O89) (p88 : DenS I88 → Bool) (f88 : DenS I88 → DenS O88) (a0 : Den (.int .i64)) (a1 : Den (.int .i64)) (a2 : Den (.int .u64)) (a3 : Den (.int .i64)) :
    run { P := Go.Proofs.Tryd.prog, sums := [(83, ⟨I83, O83, p83, f83⟩), (56, ⟨I56, O56, p56, f56⟩), (84, ⟨I84, O84, p84, f84⟩), (85, ⟨I85, O85, p85, f85⟩), (86, ⟨I86, O86, p86, f86⟩), (87, ⟨I87, O87, p87, f87⟩), (59, ⟨I59, O59, p59, f59⟩), (89, ⟨I89, O89, p89, f89⟩), (88, ⟨I88, O88, p88, f88⟩)], loops := [], globs := G1 } 9 39 Go.Proofs.Tryd.f39 I39 O39 (a0, a1, a2, a3, ()) = t39 p83 f83 p56 f56 p84 f84 p85 f85 p86 f86 p87 f87 p59 f59 p89 f89 p88 f88 a0 a1 a2 a3 := by kernel_rfl
noncomputable def T39 (x : DenS I39) : Option (DenS O39) := t39 S83.pre S83.F S56.pre S56.F S84.pre S84.F S85.pre S85.F S86.pre S86.F S87.pre S87.F S59.pre S59.F S89.pre S89.F S88.pre S88.F x.1 x.2.1 x.2.2.1 x.2.2.2.1
noncomputable def C39 : Cfg := { P := Go.Proofs.Tryd.prog, sums := [(83, S83), (56, S56), (84, S84), (85, S85), (86, S86), (87, S87), (59, S59), (89, S89), (88, S88)], loops := [], globs := G1 }
noncomputable def S39 : Sum := sumOf I39 O39 T39 (DenS.dflt O39)
theorem S39_sound : Sound Go.Proofs.Tryd.prog G1 39 S39 :=
  fn_sound C39 9 39 Go.Proofs.Tryd.f39 mixedOk (by kernel_rfl) (by kernel_rfl) (by kernel_rfl) ⟨S83_sound, ⟨S56_sound.more G01, ⟨S84_sound.more G01, ⟨S85_sound, ⟨S86_sound, ⟨S87_sound, ⟨S59_sound.more G01, ⟨S89_sound, ⟨S88_sound, trivial⟩⟩⟩⟩⟩⟩⟩⟩⟩ trivial I39 O39 T39 _ fun x => r39 S83.pre S83.F S56.pre S56.F S84.pre S84.F S85.pre S85.F S86.pre S86.F S87.pre S87.F S59.pre S59.F S89.pre S89.F S88.pre S88.F x.1 x.2.1 x.2.2.1 x.2.2.2.1
/-- vernier/vernierlaw13.OrderScales -/
abbrev I10 : Sig := [(true, .pair (.int .i64) (.pair (.int .i64) (.pair (.int .u64) (.pair (.int .i64) (.unit)))))]
abbrev O10 : Sig := [(false, .bool)]
noncomputable def t10 (p38 : DenS I38 → Bool) (f38 : DenS I38 → DenS O38) (p39 : DenS I39 → Bool) (f39 : DenS I39 → DenS O39) (p16 : DenS I16 → Bool) (f16 : DenS I16 → DenS O16) (a0 : Den (.pair (.int .i64) (.pair (.int .i64) (.pair (.int .u64) (.pair (.int .i64) (.unit)))))) : Option (DenS O10) :=
  bif (p38 (a0.1, a0.2)) then
  (bif (p39 (a0.1, a0.2)) then
  (bif (p16 ()) then
  (some (((((f16 ()).1 && ((f38 (a0.1, a0.2)).1 == (f39 (a0.1, a0.2)).1)) && ((f38 (a0.1, a0.2)).2.1 == (f39 (a0.1, a0.2)).2.1)) && ((f38 (a0.1, a0.2)).2.2.1 == (f39 (a0.1, a0.2)).2.2.1)), ()))
  else none)
  else none)
  else none
theorem r10 (p38 : DenS I38 → Bool) (f38 : DenS I38 → DenS O38) (p39 : DenS I39 → Bool) (f39 : DenS I39 → DenS O39) (p16 : DenS I16 → Bool) (f16 : DenS I16 → DenS O16) (a0 : Den (.pair (.int .i64) (.pair (.int .i64) (.pair (.int .u64) (.pair (.int .i64) (.unit)))))) :
    run { P := Go.Proofs.Tryd.prog, sums := [(38, ⟨I38, O38, p38, f38⟩), (39, ⟨I39, O39, p39, f39⟩), (16, ⟨I16, O16, p16, f16⟩)], loops := [], globs := G1 } 9 10 Go.Proofs.Tryd.f10 I10 O10 (a0, ()) = t10 p38 f38 p39 f39 p16 f16 a0 := by kernel_rfl
noncomputable def T10 (x : DenS I10) : Option (DenS O10) := t10 S38.pre S38.F S39.pre S39.F S16.pre S16.F x.1
noncomputable def C10 : Cfg := { P := Go.Proofs.Tryd.prog, sums := [(38, S38), (39, S39), (16, S16)], loops := [], globs := G1 }
noncomputable def S10 : Sum := sumOf I10 O10 T10 (DenS.dflt O10)
theorem S10_sound : Sound Go.Proofs.Tryd.prog G1 10 S10 :=
  fn_sound C10 9 10 Go.Proofs.Tryd.f10 mixedOk (by kernel_rfl) (by kernel_rfl) (by kernel_rfl) ⟨S38_sound, ⟨S39_sound, ⟨S16_sound.more G01, trivial⟩⟩⟩ trivial I10 O10 T10 _ fun x => r10 S38.pre S38.F S39.pre S39.F S16.pre S16.F x.1
end Vx
namespace Vx
open Go
theorem pre40 {x : DenS I40} {y : DenS O40} (h : T40 x = some y) : S40.pre x = true := sum_pre (T := T40) h
theorem fun40 {x : DenS I40} {y : DenS O40} (h : T40 x = some y) : S40.F x = y := sum_F (T := T40) h
theorem pre103 {x : DenS I103} {y : DenS O103} (h : T103 x = some y) : S103.pre x = true := sum_pre (T := T103) h
theorem fun103 {x : DenS I103} {y : DenS O103} (h : T103 x = some y) : S103.F x = y := sum_F (T := T103) h
theorem pre100 {x : DenS I100} {y : DenS O100} (h : T100 x = some y) : S100.pre x = true := sum_pre (T := T100) h
theorem fun100 {x : DenS I100} {y : DenS O100} (h : T100 x = some y) : S100.F x = y := sum_F (T := T100) h
theorem pre104 {x : DenS I104} {y : DenS O104} (h : T104 x = some y) : S104.pre x = true := sum_pre (T := T104) h
theorem fun104 {x : DenS I104} {y : DenS O104} (h : T104 x = some y) : S104.F x = y := sum_F (T := T104) h
theorem pre106 {x : DenS I106} {y : DenS O106} (h : T106 x = some y) : S106.pre x = true := sum_pre (T := T106) h
theorem fun106 {x : DenS I106} {y : DenS O106} (h : T106 x = some y) : S106.F x = y := sum_F (T := T106) h
theorem pre51 {x : DenS I51} {y : DenS O51} (h : T51 x = some y) : S51.pre x = true := sum_pre (T := T51) h
theorem fun51 {x : DenS I51} {y : DenS O51} (h : T51 x = some y) : S51.F x = y := sum_F (T := T51) h
theorem pre38 {x : DenS I38} {y : DenS O38} (h : T38 x = some y) : S38.pre x = true := sum_pre (T := T38) h
theorem fun38 {x : DenS I38} {y : DenS O38} (h : T38 x = some y) : S38.F x = y := sum_F (T := T38) h
theorem pre83 {x : DenS I83} {y : DenS O83} (h : T83 x = some y) : S83.pre x = true := sum_pre (T := T83) h
theorem fun83 {x : DenS I83} {y : DenS O83} (h : T83 x = some y) : S83.F x = y := sum_F (T := T83) h
theorem pre85 {x : DenS I85} {y : DenS O85} (h : T85 x = some y) : S85.pre x = true := sum_pre (T := T85) h
theorem fun85 {x : DenS I85} {y : DenS O85} (h : T85 x = some y) : S85.F x = y := sum_F (T := T85) h
theorem pre86 {x : DenS I86} {y : DenS O86} (h : T86 x = some y) : S86.pre x = true := sum_pre (T := T86) h
theorem fun86 {x : DenS I86} {y : DenS O86} (h : T86 x = some y) : S86.F x = y := sum_F (T := T86) h
theorem pre87 {x : DenS I87} {y : DenS O87} (h : T87 x = some y) : S87.pre x = true := sum_pre (T := T87) h
theorem fun87 {x : DenS I87} {y : DenS O87} (h : T87 x = some y) : S87.F x = y := sum_F (T := T87) h
theorem pre89 {x : DenS I89} {y : DenS O89} (h : T89 x = some y) : S89.pre x = true := sum_pre (T := T89) h
theorem fun89 {x : DenS I89} {y : DenS O89} (h : T89 x = some y) : S89.F x = y := sum_F (T := T89) h
theorem pre163 {x : DenS I163} {y : DenS O163} (h : T163 x = some y) : S163.pre x = true := sum_pre (T := T163) h
theorem fun163 {x : DenS I163} {y : DenS O163} (h : T163 x = some y) : S163.F x = y := sum_F (T := T163) h
theorem pre133 {x : DenS I133} {y : DenS O133} (h : T133 x = some y) : S133.pre x = true := sum_pre (T := T133) h
theorem fun133 {x : DenS I133} {y : DenS O133} (h : T133 x = some y) : S133.F x = y := sum_F (T := T133) h
theorem pre138 {x : DenS I138} {y : DenS O138} (h : T138 x = some y) : S138.pre x = true := sum_pre (T := T138) h
theorem fun138 {x : DenS I138} {y : DenS O138} (h : T138 x = some y) : S138.F x = y := sum_F (T := T138) h
theorem pre187 {x : DenS I187} {y : DenS O187} (h : T187 x = some y) : S187.pre x = true := sum_pre (T := T187) h
theorem fun187 {x : DenS I187} {y : DenS O187} (h : T187 x = some y) : S187.F x = y := sum_F (T := T187) h
theorem pre181 {x : DenS I181} {y : DenS O181} (h : T181 x = some y) : S181.pre x = true := sum_pre (T := T181) h
theorem fun181 {x : DenS I181} {y : DenS O181} (h : T181 x = some y) : S181.F x = y := sum_F (T := T181) h
theorem pre167 {x : DenS I167} {y : DenS O167} (h : T167 x = some y) : S167.pre x = true := sum_pre (T := T167) h
theorem fun167 {x : DenS I167} {y : DenS O167} (h : T167 x = some y) : S167.F x = y := sum_F (T := T167) h
theorem pre183 {x : DenS I183} {y : DenS O183} (h : T183 x = some y) : S183.pre x = true := sum_pre (T := T183) h
theorem fun183 {x : DenS I183} {y : DenS O183} (h : T183 x = some y) : S183.F x = y := sum_F (T := T183) h
theorem pre168 {x : DenS I168} {y : DenS O168} (h : T168 x = some y) : S168.pre x = true := sum_pre (T := T168) h
theorem fun168 {x : DenS I168} {y : DenS O168} (h : T168 x = some y) : S168.F x = y := sum_F (T := T168) h
theorem pre166 {x : DenS I166} {y : DenS O166} (h : T166 x = some y) : S166.pre x = true := sum_pre (T := T166) h
theorem fun166 {x : DenS I166} {y : DenS O166} (h : T166 x = some y) : S166.F x = y := sum_F (T := T166) h
theorem pre188 {x : DenS I188} {y : DenS O188} (h : T188 x = some y) : S188.pre x = true := sum_pre (T := T188) h
theorem fun188 {x : DenS I188} {y : DenS O188} (h : T188 x = some y) : S188.F x = y := sum_F (T := T188) h
theorem pre182 {x : DenS I182} {y : DenS O182} (h : T182 x = some y) : S182.pre x = true := sum_pre (T := T182) h
theorem fun182 {x : DenS I182} {y : DenS O182} (h : T182 x = some y) : S182.F x = y := sum_F (T := T182) h
theorem pre165 {x : DenS I165} {y : DenS O165} (h : T165 x = some y) : S165.pre x = true := sum_pre (T := T165) h
theorem fun165 {x : DenS I165} {y : DenS O165} (h : T165 x = some y) : S165.F x = y := sum_F (T := T165) h
theorem pre164 {x : DenS I164} {y : DenS O164} (h : T164 x = some y) : S164.pre x = true := sum_pre (T := T164) h
theorem fun164 {x : DenS I164} {y : DenS O164} (h : T164 x = some y) : S164.F x = y := sum_F (T := T164) h
theorem pre136 {x : DenS I136} {y : DenS O136} (h : T136 x = some y) : S136.pre x = true := sum_pre (T := T136) h
theorem fun136 {x : DenS I136} {y : DenS O136} (h : T136 x = some y) : S136.F x = y := sum_F (T := T136) h
theorem pre135 {x : DenS I135} {y : DenS O135} (h : T135 x = some y) : S135.pre x = true := sum_pre (T := T135) h
theorem fun135 {x : DenS I135} {y : DenS O135} (h : T135 x = some y) : S135.F x = y := sum_F (T := T135) h
theorem pre169 {x : DenS I169} {y : DenS O169} (h : T169 x = some y) : S169.pre x = true := sum_pre (T := T169) h
theorem fun169 {x : DenS I169} {y : DenS O169} (h : T169 x = some y) : S169.F x = y := sum_F (T := T169) h
theorem pre134 {x : DenS I134} {y : DenS O134} (h : T134 x = some y) : S134.pre x = true := sum_pre (T := T134) h
theorem fun134 {x : DenS I134} {y : DenS O134} (h : T134 x = some y) : S134.F x = y := sum_F (T := T134) h
theorem pre170 {x : DenS I170} {y : DenS O170} (h : T170 x = some y) : S170.pre x = true := sum_pre (T := T170) h
theorem fun170 {x : DenS I170} {y : DenS O170} (h : T170 x = some y) : S170.F x = y := sum_F (T := T170) h
theorem pre139 {x : DenS I139} {y : DenS O139} (h : T139 x = some y) : S139.pre x = true := sum_pre (T := T139) h
theorem fun139 {x : DenS I139} {y : DenS O139} (h : T139 x = some y) : S139.F x = y := sum_F (T := T139) h
theorem pre137 {x : DenS I137} {y : DenS O137} (h : T137 x = some y) : S137.pre x = true := sum_pre (T := T137) h
theorem fun137 {x : DenS I137} {y : DenS O137} (h : T137 x = some y) : S137.F x = y := sum_F (T := T137) h
theorem pre88 {x : DenS I88} {y : DenS O88} (h : T88 x = some y) : S88.pre x = true := sum_pre (T := T88) h
theorem fun88 {x : DenS I88} {y : DenS O88} (h : T88 x = some y) : S88.F x = y := sum_F (T := T88) h
theorem pre39 {x : DenS I39} {y : DenS O39} (h : T39 x = some y) : S39.pre x = true := sum_pre (T := T39) h
theorem fun39 {x : DenS I39} {y : DenS O39} (h : T39 x = some y) : S39.F x = y := sum_F (T := T39) h
end Vx
namespace VL
open Go Vx
/-- the zeros at a number's end -/
def tz (n : Nat) : Nat := if n = 0 then 0 else if n % 2 = 1 then 0 else tz (n / 2) + 1
termination_by n
decreasing_by omega
theorem tz_of : ∀ (t k : Nat), tz (2 ^ t * (2 * k + 1)) = t
  | 0, k => by
    rw [tz, Nat.pow_zero, Nat.one_mul, if_neg (by omega), if_pos (by omega)]
  | t + 1, k => by
    have e : 2 ^ (t + 1) * (2 * k + 1) = 2 * (2 ^ t * (2 * k + 1)) := by rw [Nat.pow_succ, Nat.mul_comm (2 ^ t) 2, Nat.mul_assoc]
    have hp : 0 < 2 ^ t * (2 * k + 1) := Nat.mul_pos (Nat.two_pow_pos t) (by omega)
    have ih := tz_of t k
    rw [e]
    generalize 2 ^ t * (2 * k + 1) = n at *
    rw [tz, if_neg (by omega), if_neg (by omega), show 2 * n / 2 = n by omega, ih]
theorem tz_split {n : Nat} (h : n ≠ 0) : ∃ k, n = 2 ^ tz n * (2 * k + 1) := by
  obtain ⟨t, k, e⟩ := two_split (x := n) (by omega)
  refine ⟨k, ?_⟩
  have := tz_of t k
  rw [← e] at this
  rw [this]; exact e
theorem word_split {x i t k r : Nat} (hx : x = 2 ^ t * (2 * k + 1)) (ht : t < 64) : (2 ^ 64) ^ i * (x + 2 ^ 64 * r) = 2 ^ (64 * i + t) * (2 * (k + 2 ^ (64 - t - 1) * r) + 1) := by
  have h1 : 2 ^ 64 = 2 ^ t * (2 ^ (64 - t - 1) * 2) := by rw [← Nat.pow_succ, ← Nat.pow_add]; congr 1; omega
  rw [pow64, hx, Nat.pow_add, Nat.mul_assoc]
  congr 1
  rw [h1, Nat.mul_assoc, ← Nat.mul_add]
  congr 1
  rw [Nat.mul_assoc, Nat.mul_left_comm]
  omega
abbrev Dya := Den (.pair (.bool) (.pair (.slice (.int .u64)) (.pair (.int .i64) (.unit))))
def dy (s : Bool) (n : Nat) (e : Int) : Dya := (s, Dw n, e, ())
theorem dy_zero : dy false 0 0 = (false, [], 0, ()) := by unfold dy; rw [Dw_zero]
theorem quo64m (i : Nat) (h : i ≤ 1000000) : quoI .i64 ((64 * i : Nat) : Int) 64 = (i : Int) := by
  rw [quoN _ (by omega), show 64 * i / 64 = i by omega]
theorem W100_eq (n : Nat) (h0 : n ≠ 0) (hl : (dg (2 ^ 64) n).length ≤ 1000000) (M : PMem P100_5.mem) :
    W100_5 (((0 : Int), (Dw n, ((), ((), ())))), M) = some (.inl ((((64 * (tz n / 64) : Nat) : Int), (Dw n, ((), ((), ())))), M)) := by
  have key := lfix_ind (m100_5 S102.pre S102.F S92.pre S92.F S141.pre S141.F) (fun x => (dg (2 ^ 64) n).length - x.1.1.toNat / 64)
    (fun x => ∃ i : Nat, i ≤ (dg (2 ^ 64) n).length ∧ nv (2 ^ 64) ((dg (2 ^ 64) n).take i) = 0 ∧ x = ((((64 * i : Nat) : Int), (Dw n, ((), ((), ())))), M))
    (fun _ => .inl ((((64 * (tz n / 64) : Nat) : Int), (Dw n, ((), ((), ())))), M)) ?_ (((0 : Int), (Dw n, ((), ((), ())))), M) ⟨0, Nat.zero_le _, rfl, rfl⟩
  · exact key
  intro L x hx hL
  obtain ⟨i, hi, hz, rfl⟩ := hx
  have hnv := nv_Dw n
  have ha := dg_lt (B := 2 ^ 64) (by decide) n
  have hlt : i < (dg (2 ^ 64) n).length := by
    rcases Nat.lt_or_ge i (dg (2 ^ 64) n).length with h | h
    · exact h
    · rw [List.take_of_length_le h, hnv] at hz; exact absurd hz h0
  unfold h100_5
  have e64 : IntKind.wrap .i64 (((64 * i : Nat) : Int) + 64) = ((64 * (i + 1) : Nat) : Int) := by rw [wrapI (by omega)]; omega
  have hxl := getD_lt (by decide) ha i
  unfold Dw at hL ⊢
  rcases Nat.eq_zero_or_pos ((dg (2 ^ 64) n).getD i 0) with hw | hw
  · simp (disch := omega) only [quo64m, wadd, wadd1, wadd64, wsubn, wsub1, wmul64, ilt_t, ilt_f, ile_t, ile_f, igt_t, igt_f, ige_t, ige_f, ipos_t, ipos_f, igt0_t, igt0_f, nnn, beq0_t, beq0_f, bne0_t, bne0_f, Int.toNat_natCast, Int.toNat_zero, cond_true, cond_false, Bool.and_self, Bool.true_and, Bool.and_true, Bool.false_and, Bool.and_false, Bool.not_true, Bool.not_false, Bool.or_self, Bool.true_or, Bool.or_true, Bool.false_or, Bool.or_false, Wd_len, Wd_getD, e64]
    refine hL _ ⟨i + 1, by omega, ?_, rfl⟩ (by simp only [Int.toNat_natCast]; omega)
    rw [nv_take_succ _ _ _ hlt, hz, hw, Nat.mul_zero]
  · simp (disch := omega) only [quo64m, wadd, wadd1, wadd64, wsubn, wsub1, wmul64, ilt_t, ilt_f, ile_t, ile_f, igt_t, igt_f, ige_t, ige_f, ipos_t, ipos_f, igt0_t, igt0_f, nnn, beq0_t, beq0_f, bne0_t, bne0_f, Int.toNat_natCast, Int.toNat_zero, cond_true, cond_false, Bool.and_self, Bool.true_and, Bool.and_true, Bool.false_and, Bool.and_false, Bool.not_true, Bool.not_false, Bool.or_self, Bool.true_or, Bool.or_true, Bool.false_or, Bool.or_false, Wd_len, Wd_getD]
    obtain ⟨t, k, e⟩ := two_split hw
    have ht : t < 64 := by
      have h1 : 2 ^ t * 1 ≤ 2 ^ t * (2 * k + 1) := Nat.mul_le_mul_left _ (by omega)
      exact (Nat.pow_lt_pow_iff_right (a := 2) (by decide)).1 (by omega)
    have hv : n = (2 ^ 64) ^ i * ((dg (2 ^ 64) n).getD i 0 + 2 ^ 64 * nv (2 ^ 64) ((dg (2 ^ 64) n).drop (i + 1))) := by
      have h1 := nv_split (2 ^ 64) (dg (2 ^ 64) n) i hi
      rw [hnv, hz, Nat.zero_add, nv_drop_next _ _ _ hlt] at h1
      exact h1
    rw [word_split e ht] at hv
    have htz : tz n = 64 * i + t := by rw [hv]; exact tz_of _ _
    rw [htz, show (64 * i + t) / 64 = i by omega]
theorem T100_eq (s : Bool) (l : List Nat) (hl : Ws l) (e : Int) (he : -100000000 ≤ e ∧ e ≤ 100000000) :
    T100 ((s, Wd l, e, ()), ()) = some (if nv (2 ^ 64) l = 0 then dy false 0 0 else dy s (nv (2 ^ 64) l / 2 ^ tz (nv (2 ^ 64) l)) (e + tz (nv (2 ^ 64) l)), ()) := by
  show t100 S102.pre S102.F S92.pre S92.F S141.pre S141.F W100_5 (s, Wd l, e, ()) = _
  unfold t100
  dsimp only
  have p0 := T102_eq l hl
  simp only [pre102 p0, fun102 p0, cond_true]
  have hlt := nv_lt (B := 2 ^ 64) (by decide) l hl.1
  have hll := hl.2
  generalize hn : nv (2 ^ 64) l = n at *
  have hdl : (dg (2 ^ 64) n).length ≤ 1000000 := Nat.le_trans (dg_len_le (by decide) _ _ hlt) hll
  by_cases h0 : n = 0
  · subst h0
    rw [Dw_zero, if_pos rfl, dy_zero]; rfl
  · have hlen : (((Dw n).length : Int) == 0) = false := beq0_f _ (by have := Dw_len h0; omega)
    rw [hlen, cond_false, if_neg h0]
    have hw := W100_eq n h0 hdl ((s, Wd l, e, ()), (false, [], 0, ()), ())
    rw [show W100_5 (((0 : Int), (Dw n, ((), ((), ())))), ((s, Wd l, e, ()), ((false, ([], ((0 : Int), ()))), ()))) = _ from hw]
    dsimp only [obind, obind2]
    obtain ⟨k, hk⟩ := tz_split h0
    have htl : tz n / 64 < (dg (2 ^ 64) n).length := by
      rcases Nat.lt_or_ge (tz n / 64) (dg (2 ^ 64) n).length with h | h
      · exact h
      · exfalso
        have h1 := dg_len_gt (B := 2 ^ 64) (by decide) n
        rw [pow64] at h1
        have h2 : 2 ^ (64 * (dg (2 ^ 64) n).length) ≤ 2 ^ tz n := Nat.pow_le_pow_right (by decide) (by omega)
        have h3 : 2 ^ tz n * 1 ≤ 2 ^ tz n * (2 * k + 1) := Nat.mul_le_mul_left _ (by omega)
        omega
    have hword : ∃ k', (dg (2 ^ 64) n).getD (tz n / 64) 0 = 2 ^ (tz n % 64) * (2 * k' + 1) := by
      have h1 : (dg (2 ^ 64) n).getD (tz n / 64) 0 = n / (2 ^ 64) ^ (tz n / 64) % 2 ^ 64 := by
        have h2 : dg (2 ^ 64) n = pd (2 ^ 64) (dg (2 ^ 64) n).length n := pd_at (by decide) (dg_lt (by decide) n) rfl (nv_Dw n)
        rw [h2, pd_get _ _ _ _ htl]
      have h3 : n / (2 ^ 64) ^ (tz n / 64) = 2 ^ (tz n % 64) * (2 * k + 1) := by
        have h4 : 2 ^ tz n = (2 ^ 64) ^ (tz n / 64) * 2 ^ (tz n % 64) := by rw [pow64, ← Nat.pow_add]; congr 1; omega
        have h5 : n = (2 ^ 64) ^ (tz n / 64) * (2 ^ (tz n % 64) * (2 * k + 1)) := by rw [← Nat.mul_assoc, ← h4]; exact hk
        have h6 := Nat.mul_div_cancel_left (2 ^ (tz n % 64) * (2 * k + 1)) (show 0 < (2 ^ 64) ^ (tz n / 64) from Nat.pow_pos (by decide))
        rw [← h5] at h6
        exact h6
      rw [h1, h3]
      have hr : tz n % 64 < 64 := Nat.mod_lt _ (by decide)
      generalize tz n % 64 = r at *
      have h6 : 2 ^ 64 = 2 ^ r * (2 ^ (64 - r - 1) * 2) := by rw [← Nat.pow_succ, ← Nat.pow_add]; congr 1; omega
      rw [h6, Nat.mul_mod_mul_left]
      refine ⟨(2 * k + 1) % (2 ^ (64 - r - 1) * 2) / 2, ?_⟩
      congr 1
      have h7 : (2 * k + 1) % (2 ^ (64 - r - 1) * 2) % 2 = (2 * k + 1) % 2 := Nat.mod_mod_of_dvd _ ⟨_, Nat.mul_comm _ _⟩
      omega
    obtain ⟨k', hk'⟩ := hword
    have hwl := getD_lt (B := 2 ^ 64) (by decide) (dg_lt (by decide) n) (tz n / 64)
    have p1 := T92_eq (t := tz n % 64) (k := k') (by rw [← hk']; exact hwl)
    rw [← hk'] at p1
    have p2 := T141_eq (dg (2 ^ 64) n) (dg_ws n hdl) (tz n) (by omega)
    rw [nv_Dw] at p2
    have e1 : IntKind.wrap .i64 (((64 * (tz n / 64) : Nat) : Int) + ((tz n % 64 : Nat) : Int)) = (tz n : Int) := by rw [wrapI (by omega)]; omega
    have e2 : IntKind.wrap .i64 (e + (tz n : Int)) = e + (tz n : Int) := wrapI (by omega)
    have hg : decide (((tz n / 64 : Nat) : Int) < ((dg (2 ^ 64) n).length : Int)) = true := decide_eq_true (by omega)
    unfold Dw at *
    simp (disch := omega) only [quo64m, wadd, wadd1, wadd64, wsubn, wsub1, wmul64, ilt_t, ilt_f, ile_t, ile_f, igt_t, igt_f, ige_t, ige_f, ipos_t, ipos_f, igt0_t, igt0_f, nnn, beq0_t, beq0_f, bne0_t, bne0_f, Int.toNat_natCast, Int.toNat_zero, cond_true, cond_false, Bool.and_self, Bool.true_and, Bool.and_true, Bool.false_and, Bool.and_false, Bool.not_true, Bool.not_false, Bool.or_self, Bool.true_or, Bool.or_true, Bool.false_or, Bool.or_false, Wd_len, Wd_getD, pre92 p1, fun92 p1, e1, pre141 p2, fun141 p2, e2]
    rfl
/-- odd, over numbers -/
theorem T100_dy (s : Bool) {n : Nat} (hn : n < (2 ^ 64) ^ 5000) (e : Int) (he : -100000000 ≤ e ∧ e ≤ 100000000) :
    T100 (dy s n e, ()) = some (if n = 0 then dy false 0 0 else dy s (n / 2 ^ tz n) (e + tz n), ()) := by
  have := T100_eq s (dg (2 ^ 64) n) (Dw_ws hn) e he
  rw [nv_Dw] at this
  exact this
theorem tz_odd (k : Nat) : tz (2 * k + 1) = 0 := by have := tz_of 0 k; rwa [Nat.pow_zero, Nat.one_mul] at this
end VL
namespace VL
open Go Vx
theorem set_drop {out a : List Nat} {i v : Nat} (hol : out.length = i) (h : i < a.length) : (out ++ a.drop i).set i v = (out ++ [v]) ++ a.drop (i + 1) := by
  rw [List.set_append_right _ _ (by omega), hol, Nat.sub_self, List.drop_eq_getElem_cons h, List.set_cons_zero, List.append_assoc]
  rfl
/-- a dyad brought to an odd number -/
def od (s : Bool) (n : Nat) (e : Int) : Bool × Nat × Int := if n = 0 then (false, 0, 0) else (s, n / 2 ^ tz n, e + tz n)
def dyO (t : Bool × Nat × Int) : Dya := dy t.1 t.2.1 t.2.2
theorem od_dy (s : Bool) (n : Nat) (e : Int) : (if n = 0 then dy false 0 0 else dy s (n / 2 ^ tz n) (e + tz n)) = dyO (od s n e) := by
  unfold od dyO
  split <;> rfl
theorem od_cases (s : Bool) (n : Nat) (e : Int) : (od s n e = (false, 0, 0) ∧ n = 0) ∨ ((od s n e).1 = s ∧ (od s n e).2.1 % 2 = 1 ∧ n ≠ 0 ∧ n = 2 ^ tz n * (od s n e).2.1 ∧ (od s n e).2.2 = e + tz n) := by
  unfold od
  by_cases h : n = 0
  · rw [if_pos h]; exact .inl ⟨rfl, h⟩
  · right
    rw [if_neg h]
    obtain ⟨k, hk⟩ := tz_split h
    have hd : n / 2 ^ tz n = 2 * k + 1 := by
      have := Nat.mul_div_cancel_left (2 * k + 1) (Nat.two_pow_pos (tz n))
      rw [← hk] at this
      exact this
    dsimp only
    rw [hd]
    exact ⟨rfl, by omega, h, hk, rfl⟩
theorem tz_le {n k : Nat} (h : n < 2 ^ k) (h0 : n ≠ 0) : tz n < k := by
  obtain ⟨j, hj⟩ := tz_split h0
  have h1 : 2 ^ tz n * 1 ≤ 2 ^ tz n * (2 * j + 1) := Nat.mul_le_mul_left _ (by omega)
  exact (Nat.pow_lt_pow_iff_right (a := 2) (by decide)).1 (by omega)
theorem od_bound (s : Bool) {n k : Nat} (e : Int) (hn : n < 2 ^ k) (he : -20000 ≤ e ∧ e ≤ 20000) : (od s n e).2.1 < 2 ^ k ∧ -20000 ≤ (od s n e).2.2 ∧ (od s n e).2.2 ≤ 20000 + k := by
  rcases od_cases s n e with ⟨h, _⟩ | ⟨_, h2, h3, h4, h5⟩
  · rw [h]; exact ⟨Nat.two_pow_pos _, by dsimp only; omega, by dsimp only; omega⟩
  · have hle : (od s n e).2.1 ≤ n := by
      have := Nat.le_mul_of_pos_left (od s n e).2.1 (Nat.two_pow_pos (tz n))
      omega
    have := tz_le hn h3
    refine ⟨by omega, by omega, by omega⟩
theorem big_lt {n k : Nat} (h : n < 2 ^ k) (hk : k ≤ 64 * 2000) : n < (2 ^ 64) ^ 2000 := by
  rw [pow64]
  exact Nat.lt_of_lt_of_le h (Nat.pow_le_pow_right (by decide) hk)
theorem dy_len {n k : Nat} (h : n < 2 ^ k) (hk : k ≤ 64 * 1000) : (Dw n).length ≤ 1000 := by
  unfold Dw; rw [Wd_len]
  refine dg_len_le (by decide) _ _ ?_
  rw [pow64]
  exact Nat.lt_of_lt_of_le h (Nat.pow_le_pow_right (by decide) hk)
theorem T103_ok (s : Bool) {n k : Nat} (h : n < 2 ^ k) (hk : k ≤ 64 * 1000) (e : Int) (he : -40000 ≤ e ∧ e ≤ 40000) : T103 (dy s n e, ()) = some (0, ()) := by
  show t103 (s, Dw n, e, ()) = _
  unfold t103
  have := dy_len h hk
  dsimp only
  rw [decide_eq_false (p := ((Dw n).length : Int) > 1024) (by omega), decide_eq_false (p := e < -40000) (by omega), decide_eq_false (p := e > 40000) (by omega)]
  rfl
theorem T104_ok (s : Bool) {n : Nat} (h : n < 2 ^ 6000) (e : Int) (he : -20000 ≤ e ∧ e ≤ 20000) : T104 (dy s n e, ()) = some (dyO (od s n e), 0, ()) := by
  show t104 S100.pre S100.F (s, Dw n, e, ()) = _
  unfold t104
  have p0 := T100_dy s (lt5000 (big_lt h (by decide))) e (by omega)
  rw [od_dy] at p0
  have p0 : T100 ((s, Dw n, e, ()), ()) = some (dyO (od s n e), ()) := p0
  have hb := od_bound s e h he
  have hl := dy_len hb.1 (by decide)
  have e1 : decide ((((dyO (od s n e)).2.1.length : Nat) : Int) > 1024) = false := decide_eq_false (by
    show ¬ ((((Dw (od s n e).2.1).length : Nat) : Int) > 1024)
    omega)
  have e2 : decide ((dyO (od s n e)).2.2.1 < -40000) = false := decide_eq_false (by
    show ¬ ((od s n e).2.2 < -40000)
    omega)
  have e3 : decide ((dyO (od s n e)).2.2.1 > 40000) = false := decide_eq_false (by
    show ¬ ((od s n e).2.2 > 40000)
    omega)
  simp only [pre100 p0, fun100 p0, cond_true, e1, e2, e3, cond_false, Bool.or_self]
end VL
namespace VL
open Go Vx
theorem Dw_small {x : Nat} (h0 : x ≠ 0) (h : x < 2 ^ 64) : Dw x = (x : Int) :: [] := by
  unfold Dw
  rw [dg_pos (by decide) (by omega), Nat.mod_eq_of_lt h, Nat.div_eq_of_lt h, dg_zero]; rfl
theorem T40_fin {f : Int} {a : Nat} (h : chk f a = 0) (hfin : eF f a ≠ fullF f) : T40 (f, (a : Int), ()) = some (dyO (od (sF f a) (mant f a) (xpn f a)), 0, ()) := by
  obtain ⟨hf, h0⟩ := chk_zero h
  have ha := pat_lt h
  show t40 S66.pre S66.F S90.pre S90.F S91.pre S91.F S92.pre S92.F f a = _
  unfold t40
  have h1 := fP_ge hf
  have h2 := fP_lt hf
  have h3 := fW_le hf
  have h4 := fX_le hf
  have h5 := fP_le hf
  have h6 := fX_ge hf
  have hE := eF_lt hf a
  have hM := mF_lt f a
  have hPp : 2 ^ (fP f - 1) ≤ 2 ^ 52 := Nat.pow_le_pow_right (by decide) (by omega)
  have hpp := Nat.two_pow_pos (fP f - 1)
  have p0 := T66_eq f a ha
  have p1 := T91_eq (fW f - fP f) (by omega)
  have p2 := T90_eq hf a ha
  have hr1 : decide (0 ≤ f) = true := decide_eq_true hf.1
  have hr2 : decide (f < ((4 : Nat) : Int)) = true := decide_eq_true hf.2
  have r1 : (rowOf f).1 = (fW f : Int) := rfl
  have r2 : (rowOf f).2.1 = (fP f : Int) := rfl
  have r3 : (rowOf f).2.2.1 = 1 - (fX f : Int) := rfl
  have e1 : IntKind.wrap .i64 ((fW f : Int) - (fP f : Int)) = ((fW f - fP f : Nat) : Int) := wsubn _ _ (by omega)
  have e2 : IntKind.wrap .i64 ((fP f : Int) - 1) = ((fP f - 1 : Nat) : Int) := wsub1 _ (by omega)
  have e3 : shlI .u64 1 ((fP f - 1 : Nat) : Int) = ((2 ^ (fP f - 1) : Nat) : Int) := shlI_one (by omega)
  have e4 : orI .u64 (mF f a : Int) ((2 ^ (fP f - 1) : Nat) : Int) = ((mF f a + 2 ^ (fP f - 1) : Nat) : Int) := by
    have := orN (a := mF f a) (b := 1) (k := fP f - 1) hM (by omega)
    rwa [Nat.one_mul] at this
  have hfl : (((eF f a : Nat) : Int) == ((2 ^ (fW f - fP f) - 1 : Nat) : Int)) = false := by
    rw [nbeq]; exact beq_eq_false_iff_ne.2 hfin
  have ew : ∀ z : Int, -1000000 ≤ z ∧ z ≤ 1000000 → IntKind.wrap .i64 z = z := fun z hz => wrapI (by omega)
  simp only [row_at hf, r1, r2, r3, hr1, hr2, pre66 p0, fun66 p0, pre90 p2, fun90 p2, h, cond_true, bne_self_eq_false, cond_false, e1, e2, e3, e4, pre91 p1, fun91 p1, hfl, nnn]
  by_cases hz : eF f a = 0
  · have hg : (((eF f a : Nat) : Int) == 0) = true := beq0_t _ hz
    have hm : mant f a = mF f a := by unfold mant; rw [if_pos hz]
    have hx : xpn f a = 1 - (fX f : Int) - (fP f : Int) + 1 := by unfold xpn; rw [if_pos hz, Int.add_zero]
    rw [hg, cond_true, hm, hx]
    by_cases hm0 : mF f a = 0
    · rw [beq0_t _ hm0, cond_true]
      unfold od dyO
      rw [if_pos hm0, dy_zero]
    · obtain ⟨k, hk⟩ := tz_split hm0
      have htl := tz_le (n := mF f a) (k := 53) (by omega) hm0
      have p3 := T92_eq (t := tz (mF f a)) (k := k) (by omega)
      rw [← hk] at p3
      have hq : mF f a / 2 ^ tz (mF f a) ≠ 0 := by
        have := Nat.mul_div_cancel_left (2 * k + 1) (Nat.two_pow_pos (tz (mF f a)))
        rw [← hk] at this
        omega
      have hql := Nat.div_le_self (mF f a) (2 ^ tz (mF f a))
      rw [beq0_f _ hm0, cond_false]
      simp only [pre92 p3, fun92 p3, cond_true, nnn, shrN (mF f a) (tz (mF f a)) (by omega)]
      rw [← Dw_small hq (by omega)]
      unfold od dyO dy
      rw [if_neg hm0]
      rw [ew 1 (by omega), ew (1 - 1) (by omega), ew (1 - 1 + _) (by omega), ew (1 - 1 + _ - _) (by omega), ew (1 - 1 + _ - _ + 1) (by omega), ew _ (by omega)]
      rw [show (1 : Int) - 1 + (1 - (fX f : Int)) - (fP f : Int) + 1 + (tz (mF f a) : Int) = 1 - (fX f : Int) - (fP f : Int) + 1 + (tz (mF f a) : Int) by omega]
  · have hg : (((eF f a : Nat) : Int) == 0) = false := beq0_f _ hz
    have hm : mant f a = mF f a + 2 ^ (fP f - 1) := by unfold mant; rw [if_neg hz]
    have hx : xpn f a = 1 - (fX f : Int) - (fP f : Int) + 1 + ((eF f a : Int) - 1) := by unfold xpn; rw [if_neg hz]
    rw [hg, cond_false, hm, hx]
    have hm0 : mF f a + 2 ^ (fP f - 1) ≠ 0 := by omega
    have hml : mF f a + 2 ^ (fP f - 1) < 2 ^ 54 := by omega
    generalize mF f a + 2 ^ (fP f - 1) = n at *
    obtain ⟨k, hk⟩ := tz_split hm0
    have htl := tz_le hml hm0
    have p3 := T92_eq (t := tz n) (k := k) (by rw [← hk]; omega)
    rw [← hk] at p3
    have hq : n / 2 ^ tz n ≠ 0 := by
      have := Nat.mul_div_cancel_left (2 * k + 1) (Nat.two_pow_pos (tz n))
      rw [← hk] at this
      omega
    have hql := Nat.div_le_self n (2 ^ tz n)
    rw [beq0_f _ hm0, cond_false]
    simp only [pre92 p3, fun92 p3, cond_true, nnn, shrN n (tz n) (by omega)]
    rw [← Dw_small hq (by omega)]
    unfold od dyO dy
    rw [if_neg hm0]
    rw [ew (eF f a : Int) (by omega), ew ((eF f a : Int) - 1) (by omega), ew ((eF f a : Int) - 1 + _) (by omega), ew ((eF f a : Int) - 1 + _ - _) (by omega), ew ((eF f a : Int) - 1 + _ - _ + 1) (by omega), ew _ (by omega)]
    rw [show (eF f a : Int) - 1 + (1 - (fX f : Int)) - (fP f : Int) + 1 + (tz n : Int) = 1 - (fX f : Int) - (fP f : Int) + 1 + ((eF f a : Int) - 1) + (tz n : Int) by omega]
end VL
namespace VL
open Go Vx
theorem qm_neg {f : Int} (hf : Fm f) : qm f ≤ 0 := by
  have := fX_ge hf
  have := fP_ge hf
  unfold qm; omega
theorem T51_eq {f m : Int} (hf : Fm f) (hm : 0 ≤ m ∧ m ≤ 5) (s : Bool) {n : Nat} (hn : n < 2 ^ 6000) (h0 : n ≠ 0) (hodd : n % 2 = 1) (e : Int) (he : -20000 ≤ e ∧ e ≤ 20000) :
    T51 (f, m, dy s n e, ()) = some (((rndN f m s n e false).1 : Int), ((rndN f m s n e false).2 : Int), 0, ()) := by
  show t51 S105.pre S105.F S106.pre S106.F S107.pre S107.F f m (s, Dw n, e, ()) = _
  unfold t51
  have p0 := T105_ok hf hm
  have q1 := T103_ok s hn (by decide) e (by omega)
  have q2 := T104_ok s hn e he
  have hod : od s n e = (s, n, e) := by
    obtain ⟨k, rfl⟩ : ∃ k, n = 2 * k + 1 := ⟨n / 2, by omega⟩
    unfold od
    rw [if_neg (by omega), tz_odd, Nat.pow_zero, Nat.div_one, Int.natCast_zero, Int.add_zero]
  rw [hod] at q2
  have p1 : T106 ((s, Dw n, e, ()), ()) = some ((s, Dw n, e, ()), 0, ()) := by
    show t106 S103.pre S103.F S104.pre S104.F (s, Dw n, e, ()) = _
    unfold t106
    have q1 : T103 ((s, Dw n, e, ()), ()) = some (0, ()) := q1
    have q2 : T104 ((s, Dw n, e, ()), ()) = some ((s, Dw n, e, ()), 0, ()) := q2
    simp only [pre103 q1, fun103 q1, pre104 q2, fun104 q2, cond_true, bne_self_eq_false, cond_false]
  have p2 := T107_eq s n e false f m hf (big_lt hn (by decide)) (by omega)
  have hlen : (((Dw n).length : Int) == 0) = false := beq0_f _ (by have := Dw_len h0; omega)
  simp only [pre105 p0, fun105 p0, cond_true, bne_self_eq_false, cond_false, pre106 p1, fun106 p1, hlen, pre107 p2, fun107 p2]
end VL
namespace VL
open Go Vx
/-- bounds that the additions keep -/
def Bd (f : Int) (n : Nat) (e : Int) : Prop := qm f ≤ e ∧ e ≤ 6000 ∧ n * 2 ^ (e - qm f).toNat < 2 ^ 5000
theorem Bd.lt {f : Int} {n : Nat} {e : Int} (h : Bd f n e) : n < 2 ^ 5000 := by
  have := Nat.le_mul_of_pos_right n (Nat.two_pow_pos (e - qm f).toNat)
  exact Nat.lt_of_le_of_lt this h.2.2
theorem Bd.od {f : Int} (hf : Fm f) {n : Nat} {e : Int} (s : Bool) (h : Bd f n e) : Bd f (VL.od s n e).2.1 (VL.od s n e).2.2 := by
  rcases od_cases s n e with ⟨hz, _⟩ | ⟨_, h2, h3, h4, h5⟩
  · rw [hz]
    exact ⟨qm_neg hf, by dsimp only; omega, by dsimp only; rw [Nat.zero_mul]; exact Nat.two_pow_pos _⟩
  · have hle : 2 ^ (tz n + (e - qm f).toNat) ≤ n * 2 ^ (e - qm f).toNat := by
      rw [Nat.pow_add]
      refine Nat.mul_le_mul_right _ ?_
      have := Nat.le_mul_of_pos_right (2 ^ tz n) (show 0 < (VL.od s n e).2.1 by omega)
      omega
    have hlt := (Nat.pow_lt_pow_iff_right (a := 2) (by decide)).1 (Nat.lt_of_le_of_lt hle h.2.2)
    have hq := qm_neg hf
    have h1 := h.1
    refine ⟨by omega, by omega, ?_⟩
    have e1 : (VL.od s n e).2.1 * 2 ^ ((VL.od s n e).2.2 - qm f).toNat = n * 2 ^ (e - qm f).toNat := by
      rw [h5, show (e + (tz n : Int) - qm f).toNat = tz n + (e - qm f).toNat by omega, Nat.pow_add, ← Nat.mul_assoc, Nat.mul_comm _ (2 ^ tz n), ← h4]
    rw [e1]; exact h.2.2
end VL
namespace VL
open Go Vx
/-- a fact that omega doesn't look into -/
structure Hid (p : Prop) : Prop where
  out : p
end VL
namespace VL
open Go Vx
theorem T40_full {f : Int} {a : Nat} (h : chk f a = 0) (hfull : eF f a = fullF f) : T40 (f, (a : Int), ()) = some ((false, [], 0, ()), 40, ()) := by
  obtain ⟨hf, h0⟩ := chk_zero h
  have ha := pat_lt h
  show t40 S66.pre S66.F S90.pre S90.F S91.pre S91.F S92.pre S92.F f a = _
  unfold t40
  have h2 := fP_lt hf
  have h3 := fW_le hf
  have h4 := fP_ge hf
  have h5 := fP_le hf
  have p0 := T66_eq f a ha
  have p1 := T91_eq (fW f - fP f) (by omega)
  have p2 := T90_eq hf a ha
  have hr1 : decide (0 ≤ f) = true := decide_eq_true hf.1
  have hr2 : decide (f < ((4 : Nat) : Int)) = true := decide_eq_true hf.2
  have r1 : (rowOf f).1 = (fW f : Int) := rfl
  have r2 : (rowOf f).2.1 = (fP f : Int) := rfl
  have e1 : IntKind.wrap .i64 ((fW f : Int) - (fP f : Int)) = ((fW f - fP f : Nat) : Int) := wsubn _ _ (by omega)
  have hfl : (((eF f a : Nat) : Int) == ((2 ^ (fW f - fP f) - 1 : Nat) : Int)) = true := by
    rw [nbeq]; exact beq_iff_eq.2 hfull
  simp only [row_at hf, r1, r2, hr1, hr2, pre66 p0, fun66 p0, pre90 p2, fun90 p2, h, cond_true, bne_self_eq_false, cond_false, e1, pre91 p1, fun91 p1, hfl]
end VL
