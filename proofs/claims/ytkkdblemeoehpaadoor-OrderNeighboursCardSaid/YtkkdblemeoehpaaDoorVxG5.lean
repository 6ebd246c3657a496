/- Part 5 of the proof. What is proved: symbolic execution of the functions, proved sound; what each function of the program computes, and that every run ends with it; what these functions compute, in plain numbers. Conditions: each theorem bears its own. -/
import Derived.Test.YtkkdblemeoehpaaDoorVxG4
set_option linter.all false
set_option exponentiation.threshold 1000000
namespace VL
open Go Vx
/-- does the last place go up? rest: 0 nothing is lost, 1 less than a half, 2 a half, 3 more -/
def furM (m : Int) (neg odd : Bool) (rest : Nat) : Bool :=
  if m = 4 then neg else if m = 3 then !neg else if m = 0 then (if rest = 2 then odd else decide (2 ≤ rest)) else if m = 1 then decide (2 ≤ rest) else if m = 5 then !odd else false
theorem ibeq_f (a b : Int) (h : a ≠ b) : (a == b) = false := by simp [h]
theorem T177_eq (m : Int) (neg odd : Bool) (rest : Nat) : T177 (m, neg, odd, (rest : Int), ()) = some (furM m neg odd rest, ()) := by
  show t177 m neg odd (rest : Int) = _
  have e2 : decide ((rest : Int) ≥ 2) = decide (2 ≤ rest) := by rw [Bool.eq_iff_iff, decide_eq_true_eq, decide_eq_true_eq]; omega
  have e3 : ((rest : Int) == 2) = decide (rest = 2) := by rw [Bool.eq_iff_iff, decide_eq_true_eq, beq_iff_eq]; omega
  unfold t177 furM
  rw [e2, e3]
  by_cases h4 : m = 4
  · subst h4; cases neg <;> rfl
  rw [ibeq_f m 4 h4, cond_false, if_neg h4]
  by_cases h3 : m = 3
  · subst h3; rfl
  rw [ibeq_f m 3 h3, cond_false, if_neg h3]
  by_cases h0 : m = 0
  · subst h0
    by_cases hr : rest = 2
    · subst hr; rfl
    · rw [decide_eq_false hr, if_pos rfl, if_neg hr]; rfl
  rw [ibeq_f m 0 h0, cond_false, if_neg h0]
  by_cases h1 : m = 1
  · subst h1; rfl
  rw [ibeq_f m 1 h1, cond_false, if_neg h1]
  by_cases h5 : m = 5
  · subst h5; rfl
  rw [ibeq_f m 5 h5, cond_false, if_neg h5]
/-- n times 2^e in units of 2^q: the whole ones -/
def quoE (n : Nat) (e q : Int) : Nat := if q ≤ e then n * 2 ^ (e - q).toNat else n / 2 ^ (q - e).toNat
def clsR (r s : Nat) : Nat := if r = 0 then 0 else if r < 2 ^ (s - 1) then 1 else if r = 2 ^ (s - 1) then 2 else 3
/-- and what is lost -/
def rstE (n : Nat) (e q : Int) : Nat := if q ≤ e then 0 else clsR (n % 2 ^ (q - e).toNat) (q - e).toNat
/-- four times the whole, with what is lost -/
def j4 (n : Nat) (e q : Int) : Nat := if 2 ≤ q - e then jamN n (q - e - 2).toNat else n * 2 ^ (2 - (q - e)).toNat
theorem j4_eq (n : Nat) (e q : Int) : j4 n e q / 4 = quoE n e q ∧ j4 n e q % 4 = rstE n e q := by
  unfold j4 quoE rstE
  by_cases h2 : 2 ≤ q - e
  · rw [if_pos h2, if_neg (by omega), if_neg (by omega)]
    have es : (q - e).toNat = (q - e - 2).toNat + 2 := by omega
    rw [es]
    generalize (q - e - 2).toNat = s
    have hp := Nat.two_pow_pos s
    have e1 : 2 ^ (s + 2) = 2 ^ s * 4 := by rw [Nat.pow_add]
    have e2 : 2 ^ (s + 2 - 1) = 2 ^ s * 2 := by rw [show s + 2 - 1 = s + 1 by omega, Nat.pow_succ]
    unfold jamN clsR
    rw [e2, e1, ← Nat.div_div_eq_div_mul, Nat.mod_mul]
    have hr := Nat.mod_lt n hp
    generalize n % 2 ^ s = r at *
    generalize n / 2 ^ s = u at *
    have h4 : u % 4 = 0 ∨ u % 4 = 1 ∨ u % 4 = 2 ∨ u % 4 = 3 := by omega
    constructor
    · split <;> omega
    · rcases h4 with h | h | h | h <;> rw [h] <;> by_cases hz : r = 0
      · rw [if_pos hz, if_pos (by omega)]; exact h
      · rw [if_neg hz, if_neg (by omega), if_pos (by omega)]; omega
      · rw [if_pos hz, if_neg (by omega), if_pos (by omega)]; exact h
      · rw [if_neg hz, if_neg (by omega), if_pos (by omega)]; omega
      · rw [if_pos hz, if_neg (by omega), if_neg (by omega), if_pos (by omega)]; exact h
      · rw [if_neg hz, if_neg (by omega), if_neg (by omega), if_neg (by omega)]; omega
      · rw [if_pos hz, if_neg (by omega), if_neg (by omega), if_neg (by omega)]; exact h
      · rw [if_neg hz, if_neg (by omega), if_neg (by omega), if_neg (by omega)]; omega
  · rw [if_neg h2]
    by_cases h1 : q ≤ e
    · rw [if_pos h1, if_pos h1, show (2 - (q - e)).toNat = (e - q).toNat + 2 by omega, Nat.pow_add, ← Nat.mul_assoc]
      generalize n * 2 ^ (e - q).toNat = x
      omega
    · rw [if_neg h1, if_neg h1, show (2 - (q - e)).toNat = 1 by omega, show (q - e).toNat = 1 by omega]
      unfold clsR
      rcases Nat.mod_two_eq_zero_or_one n with h | h
      · rw [show n % 2 ^ 1 = 0 from h, if_pos rfl]; omega
      · rw [show n % 2 ^ 1 = 1 from h, if_neg (by omega), if_neg (by decide), if_pos (by decide)]; omega
def cutR (n : Nat) (e q : Int) (more : Bool) : Nat := if more then rstE n e q / 2 * 2 + 1 else rstE n e q
def cutN (m : Int) (neg : Bool) (n : Nat) (e q : Int) (more : Bool) : Nat :=
  if cutR n e q more ≠ 0 ∧ furM m neg (decide (quoE n e q % 2 = 1)) (cutR n e q more) = true then quoE n e q + 1 else quoE n e q
theorem Dw_zero : Dw 0 = [] := by unfold Dw; rw [dg_zero]; rfl
theorem Dw_len {n : Nat} (h : n ≠ 0) : 0 < (Dw n).length := by
  unfold Dw; rw [Wd_len, dg_pos (by decide) (by omega)]; simp
theorem Dw_len_gt {n : Nat} (h : n ≠ 0) : decide ((((Dw n).length : Nat) : Int) > 0) = true := decide_eq_true (by have := Dw_len h; omega)
theorem Dw_len_pos {n : Nat} (h : n ≠ 0) : decide ((0 : Int) < (((Dw n).length : Nat) : Int)) = true := decide_eq_true (by have := Dw_len h; omega)
theorem Dw_get (n : Nat) : (Dw n).getD 0 0 = ((n % 2 ^ 64 : Nat) : Int) := by
  unfold Dw; rw [Wd_getD]
  rcases Nat.eq_zero_or_pos n with rfl | h
  · rw [dg_zero]; rfl
  · rw [dg_pos (by decide) h]; rfl
theorem Dw_one : Dw 1 = (1 : Int) :: [] := by
  unfold Dw; rw [dg_pos (by decide) (by decide), dg_zero]; rfl
theorem Dw_guard (n : Nat) : (decide ((0 : Int) < (((Dw n).length : Nat) : Int)) || !decide ((((Dw n).length : Nat) : Int) > 0)) = true := by
  by_cases h : 0 < (Dw n).length
  · rw [decide_eq_true (by omega)]; rfl
  · rw [decide_eq_false (p := (((Dw n).length : Nat) : Int) > 0) (by omega)]; simp
theorem and3 (n : Nat) : andI .u64 ((n % 2 ^ 64 : Nat) : Int) 3 = ((n % 4 : Nat) : Int) := by
  have := andI_mask (m := n % 2 ^ 64) (n := 2) (Nat.mod_lt _ (by decide)) (by decide)
  rw [show n % 2 ^ 64 % 2 ^ 2 = n % 4 by omega] at this
  exact this
theorem and1 (n : Nat) : andI .u64 ((n % 2 ^ 64 : Nat) : Int) 1 = ((n % 2 : Nat) : Int) := by
  have := andI_mask (m := n % 2 ^ 64) (n := 1) (Nat.mod_lt _ (by decide)) (by decide)
  rw [show n % 2 ^ 64 % 2 ^ 1 = n % 2 by omega] at this
  exact this
theorem or1 (n : Nat) (h : n < 2 ^ 64) : orI .u64 (n : Int) 1 = ((n / 2 * 2 + 1 : Nat) : Int) := by
  have := orN2 (a := n) (b := 1) h (by decide)
  rw [or_one] at this
  exact this
theorem or01 : orI .u64 0 1 = 1 := by decide
theorem odd_guard (u : Nat) : (decide ((((Dw u).length : Nat) : Int) > 0) && (andI .u64 ((Dw u).getD 0 0) 1 == 1)) = decide (u % 2 = 1) := by
  rw [Dw_get, and1]
  rcases Nat.eq_zero_or_pos u with rfl | h
  · rw [Dw_zero]; rfl
  · rw [Dw_len_gt (by omega), Bool.true_and, Bool.eq_iff_iff, decide_eq_true_eq, beq_iff_eq]; omega
theorem Dw_ws {n : Nat} (h : n < (2 ^ 64) ^ 5000) : Ws (dg (2 ^ 64) n) := by
  have := dg_len_le (B := 2 ^ 64) (by decide) 5000 n h
  exact dg_ws n (by omega)
theorem nv_Dw (n : Nat) : nv (2 ^ 64) (dg (2 ^ 64) n) = n := nv_dg (by decide) n
/-- nat.Shr by 2 -/
theorem shr2 {j : Nat} (hj : Ws (dg (2 ^ 64) j)) : T141 (Dw j, (2 : Int), ()) = some (Dw (j / 4), 0, ()) := by
  have := T141_eq (dg (2 ^ 64) j) hj 2 (by decide)
  rw [nv_Dw] at this
  exact this
/-- and one more -/
theorem add1 {u : Nat} (hu : Ws (dg (2 ^ 64) u)) (hl : (dg (2 ^ 64) u).length < 1000000) : T143 (Dw u, ((1 : Int) :: []), ()) = some (Dw (u + 1), ()) := by
  have := T143_eq (dg (2 ^ 64) u) [1] hu ⟨by simp, by simp⟩ (by rw [dg_trim (by decide)]; exact hl) (by simp [trimL])
  rw [nv_Dw, show nv (2 ^ 64) [1] = 1 by rfl] at this
  exact this
end VL
namespace VL
open Go Vx
theorem gt00 : decide ((0 : Int) > 0) = false := rfl
theorem T150_eq (m : Int) (neg : Bool) (n : Nat) (e q : Int) (more : Bool) (hn : n < (2 ^ 64) ^ 2000) (hq : q - e ≤ 10000000) (he : -1000000000 ≤ e ∧ e ≤ 1000000000) (hqb : -1000000000 ≤ q ∧ q ≤ 1000000000)
    (hs : q - e < 2 → 2 - (q - e) ≤ 65536 ∧ n * 2 ^ (2 - (q - e)).toNat < (2 ^ 64) ^ 1024) :
    T150 ((neg, Dw n, e, more, ()), m, q, ()) = some (Dw (cutN m neg n e q more), decide (cutR n e q more ≠ 0), ()) := by
  show t150 _ _ _ _ _ _ _ _ _ _ (neg, Dw n, e, more, ()) m q = _
  unfold t150
  have hnw : Ws (dg (2 ^ 64) n) := Dw_ws (Nat.lt_trans hn (Nat.pow_lt_pow_right (by decide) (by decide)))
  have e0 : IntKind.wrap .i64 (q - e) = q - e := wrapI (by omega)
  have hj4 := j4_eq n e q
  dsimp only
  rw [e0]
  by_cases h2 : 2 ≤ q - e
  · rw [show decide (q - e ≥ 2) = true from decide_eq_true h2, cond_true]
    obtain ⟨s, hs⟩ := Int.eq_ofNat_of_zero_le (show 0 ≤ q - e - 2 by omega)
    have e1 : IntKind.wrap .i64 (q - e - 2) = (s : Int) := by rw [wrapI (by omega)]; exact hs
    have hj : j4 n e q = jamN n s := by unfold j4; rw [if_pos h2]; congr 1; omega
    rw [hj] at hj4
    have hjn : jamN n s ≤ n + 1 := by
      unfold jamN
      have := Nat.div_le_self n (2 ^ s)
      split <;> omega
    have p0 := T175_eq (dg (2 ^ 64) n) hnw s (by omega)
    rw [nv_Dw] at p0
    have hjl : jamN n s < (2 ^ 64) ^ 5000 := by
      have h1 : (2 ^ 64) ^ 2000 < (2 ^ 64) ^ 5000 := Nat.pow_lt_pow_right (by decide) (by decide)
      generalize (2 ^ 64) ^ 2000 = A at *
      generalize (2 ^ 64) ^ 5000 = B at *
      omega
    clear hj
    generalize jamN n s = j at *
    have hj : Ws (dg (2 ^ 64) j) := Dw_ws hjl
    rw [e1]
    have p0 : T175 (Dw n, (s : Int), ()) = some (Dw j, 0, ()) := p0

    have p1 := shr2 hj
    have hu : Ws (dg (2 ^ 64) (j / 4)) := Dw_ws (Nat.lt_of_le_of_lt (Nat.div_le_self _ _) hjl)
    have hul := dg_len_le (B := 2 ^ 64) (by decide) 5000 (j / 4) (Nat.lt_of_le_of_lt (Nat.div_le_self _ _) hjl)
    have p3 := add1 hu (by omega)
    have h4 : j % 4 < 4 := Nat.mod_lt _ (by decide)
    unfold cutN cutR
    rw [← hj4.1, ← hj4.2]
    rcases Nat.eq_zero_or_pos j with hj0 | hj0
    · subst hj0
      have pz : T141 ([], (2 : Int), ()) = some (Dw (0 / 4), 0, ()) := by rw [← Dw_zero]; exact p1
      cases more with
      | true =>
        have p2 : T177 (m, neg, decide (0 / 4 % 2 = 1), (1 : Int), ()) = some (furM m neg (decide (0 / 4 % 2 = 1)) 1, ()) := T177_eq m neg _ 1
        simp only [pre175 p0, fun175 p0, cond_true, Dw_zero, List.length_nil, igt0_f, Int.natCast_zero, cond_false, Int.toNat_zero, gt00, or01, pre141 pz, fun141 pz, Dw_guard, odd_guard, pre177 p2, fun177 p2, Bool.true_or, Bool.or_true, Bool.true_and]
        cases hf : furM m neg (decide (0 / 4 % 2 = 1)) 1 with
        | true => simp only [cond_true, pre143 p3, fun143 p3]; have hf : furM m neg false 1 = true := hf; simp [hf]
        | false => simp only [cond_false]; have hf : furM m neg false 1 = false := hf; simp [hf]
      | false =>
        simp only [pre175 p0, fun175 p0, cond_true, Dw_zero, List.length_nil, Int.natCast_zero, cond_false, Int.toNat_zero, gt00, pre141 pz, fun141 pz, Dw_guard, Bool.or_true]
        simp
    · have hjn : j ≠ 0 := by omega
      cases more with
      | true =>
        have p2 := T177_eq m neg (decide (j / 4 % 2 = 1)) (j % 4 / 2 * 2 + 1)
        have hr : j % 4 / 2 * 2 + 1 ≠ 0 := by omega
        simp only [pre175 p0, fun175 p0, cond_true, Dw_len_gt hjn, Dw_len_pos hjn, Int.toNat_zero, Dw_get j, and3, or1 (j % 4) (by omega), pre141 p1, fun141 p1, Dw_guard, odd_guard, pre177 p2, fun177 p2, Bool.true_or, Bool.or_true, bne0_t _ hr, Bool.true_and]
        cases hf : furM m neg (decide (j / 4 % 2 = 1)) (j % 4 / 2 * 2 + 1) with
        | true => simp only [cond_true, pre143 p3, fun143 p3]; simp [hf]
        | false => simp only [cond_false]; simp [hf]
      | false =>
        have p2 := T177_eq m neg (decide (j / 4 % 2 = 1)) (j % 4)
        simp only [pre175 p0, fun175 p0, cond_true, cond_false, Dw_len_gt hjn, Dw_len_pos hjn, Int.toNat_zero, Dw_get j, and3, pre141 p1, fun141 p1, Dw_guard, odd_guard, pre177 p2, fun177 p2, Bool.true_or, Bool.or_true]
        rcases Nat.eq_zero_or_pos (j % 4) with hz | hz
        · rw [bne0_f _ hz, Bool.false_and, cond_false]
          simp [hz]
        · have hr : j % 4 ≠ 0 := by omega
          rw [bne0_t _ hr, Bool.true_and]
          cases hf : furM m neg (decide (j / 4 % 2 = 1)) (j % 4) with
          | true => simp only [cond_true, pre143 p3, fun143 p3]; simp [hf, hr]
          | false => simp only [cond_false]; simp [hf, hr]
  · rw [show decide (q - e ≥ 2) = false from decide_eq_false h2, cond_false]
    obtain ⟨s, hse⟩ := Int.eq_ofNat_of_zero_le (show 0 ≤ 2 - (q - e) by omega)
    have e1 : IntKind.wrap .i64 (2 - (q - e)) = (s : Int) := by rw [wrapI (by omega)]; exact hse
    have hj : j4 n e q = n * 2 ^ s := by unfold j4; rw [if_neg h2]; congr 2; omega
    rw [hj] at hj4
    obtain ⟨hs1, hs2⟩ := hs (by omega)
    rw [show (2 - (q - e)).toNat = s by omega] at hs2
    have p0 := T176_eq (dg (2 ^ 64) n) hnw s (by omega) (by rw [nv_Dw]; exact hs2)
    rw [nv_Dw] at p0
    have hjl : n * 2 ^ s < (2 ^ 64) ^ 5000 := Nat.lt_trans hs2 (Nat.pow_lt_pow_right (by decide) (by decide))
    clear hj
    generalize n * 2 ^ s = j at *
    have hj : Ws (dg (2 ^ 64) j) := Dw_ws hjl
    rw [e1]
    have p0 : T176 (Dw n, (s : Int), ()) = some (Dw j, 0, ()) := p0

    have p1 := shr2 hj
    have hu : Ws (dg (2 ^ 64) (j / 4)) := Dw_ws (Nat.lt_of_le_of_lt (Nat.div_le_self _ _) hjl)
    have hul := dg_len_le (B := 2 ^ 64) (by decide) 5000 (j / 4) (Nat.lt_of_le_of_lt (Nat.div_le_self _ _) hjl)
    have p3 := add1 hu (by omega)
    have h4 : j % 4 < 4 := Nat.mod_lt _ (by decide)
    unfold cutN cutR
    rw [← hj4.1, ← hj4.2]
    rcases Nat.eq_zero_or_pos j with hj0 | hj0
    · subst hj0
      have pz : T141 ([], (2 : Int), ()) = some (Dw (0 / 4), 0, ()) := by rw [← Dw_zero]; exact p1
      cases more with
      | true =>
        have p2 : T177 (m, neg, decide (0 / 4 % 2 = 1), (1 : Int), ()) = some (furM m neg (decide (0 / 4 % 2 = 1)) 1, ()) := T177_eq m neg _ 1
        simp only [pre176 p0, fun176 p0, cond_true, Dw_zero, List.length_nil, igt0_f, Int.natCast_zero, cond_false, Int.toNat_zero, gt00, or01, pre141 pz, fun141 pz, Dw_guard, odd_guard, pre177 p2, fun177 p2, Bool.true_or, Bool.or_true, Bool.true_and]
        cases hf : furM m neg (decide (0 / 4 % 2 = 1)) 1 with
        | true => simp only [cond_true, pre143 p3, fun143 p3]; have hf : furM m neg false 1 = true := hf; simp [hf]
        | false => simp only [cond_false]; have hf : furM m neg false 1 = false := hf; simp [hf]
      | false =>
        simp only [pre176 p0, fun176 p0, cond_true, Dw_zero, List.length_nil, Int.natCast_zero, cond_false, Int.toNat_zero, gt00, pre141 pz, fun141 pz, Dw_guard, Bool.or_true]
        simp
    · have hjn : j ≠ 0 := by omega
      cases more with
      | true =>
        have p2 := T177_eq m neg (decide (j / 4 % 2 = 1)) (j % 4 / 2 * 2 + 1)
        have hr : j % 4 / 2 * 2 + 1 ≠ 0 := by omega
        simp only [pre176 p0, fun176 p0, cond_true, Dw_len_gt hjn, Dw_len_pos hjn, Int.toNat_zero, Dw_get j, and3, or1 (j % 4) (by omega), pre141 p1, fun141 p1, Dw_guard, odd_guard, pre177 p2, fun177 p2, Bool.true_or, Bool.or_true, bne0_t _ hr, Bool.true_and]
        cases hf : furM m neg (decide (j / 4 % 2 = 1)) (j % 4 / 2 * 2 + 1) with
        | true => simp only [cond_true, pre143 p3, fun143 p3]; simp [hf]
        | false => simp only [cond_false]; simp [hf]
      | false =>
        have p2 := T177_eq m neg (decide (j / 4 % 2 = 1)) (j % 4)
        simp only [pre176 p0, fun176 p0, cond_true, cond_false, Dw_len_gt hjn, Dw_len_pos hjn, Int.toNat_zero, Dw_get j, and3, pre141 p1, fun141 p1, Dw_guard, odd_guard, pre177 p2, fun177 p2, Bool.true_or, Bool.or_true]
        rcases Nat.eq_zero_or_pos (j % 4) with hz | hz
        · rw [bne0_f _ hz, Bool.false_and, cond_false]
          simp [hz]
        · have hr : j % 4 ≠ 0 := by omega
          rw [bne0_t _ hr, Bool.true_and]
          cases hf : furM m neg (decide (j / 4 % 2 = 1)) (j % 4) with
          | true => simp only [cond_true, pre143 p3, fun143 p3]; simp [hf, hr]
          | false => simp only [cond_false]; simp [hf, hr]
end VL
namespace VL
open Go Vx
def sgnF (f : Int) (neg : Bool) : Nat := if neg then 2 ^ (fW f - 1) else 0
def infB (f : Int) (neg : Bool) : Nat := (2 ^ (fW f - fP f) - 1) * 2 ^ (fP f - 1) + sgnF f neg
def upw (m : Int) (neg : Bool) : Bool := ((m == 0 || m == 1) || (m == 3 && !neg)) || (m == 4 && neg)
def beyB (f m : Int) (neg : Bool) : Nat := if upw m neg then infB f neg else infB f neg - 1
theorem T97_ok {f : Int} (h : Fm f) (neg : Bool) : T97 (f, neg, ()) = some ((infB f neg : Int), 0, ()) := by
  rcases Fm_cases h with rfl | rfl | rfl | rfl <;> cases neg <;> kernel_rfl
theorem T43_ok {f : Int} (h : Fm f) (neg : Bool) : T43 (f, neg, ()) = some (((infB f neg - 1 : Nat) : Int), 0, ()) := by
  rcases Fm_cases h with rfl | rfl | rfl | rfl <;> cases neg <;> kernel_rfl
theorem T149_eq {f : Int} (h : Fm f) (m : Int) (neg : Bool) : T149 (f, m, neg, ()) = some ((beyB f m neg : Int), ()) := by
  show t149 S97.pre S97.F S43.pre S43.F f m neg = _
  have p0 := T97_ok h neg
  have p1 := T43_ok h neg
  unfold t149 beyB
  show (bif upw m neg then (bif S97.pre (f, neg, ()) then some ((S97.F (f, neg, ())).1, ()) else none) else (bif S43.pre (f, neg, ()) then some ((S43.F (f, neg, ())).1, ()) else none)) = _
  rw [pre97 p0, fun97 p0, pre43 p1, fun43 p1]
  cases upw m neg <;> rfl
def topE (n : Nat) (e : Int) : Int := e + (blen n : Int) - 1
theorem blen_bound {n k : Nat} (h : n < 2 ^ k) : blen n ≤ k := by
  rcases Nat.eq_zero_or_pos n with rfl | hn
  · exact Nat.zero_le _
  · have := blen_le (n := n) (by omega)
    have : blen n - 1 < k := (Nat.pow_lt_pow_iff_right (a := 2) (by decide)).1 (Nat.lt_of_le_of_lt this h)
    omega
theorem blen_pos {n : Nat} (h : n ≠ 0) : 1 ≤ blen n := by unfold blen; rw [if_neg h]; omega
theorem big_blen {n : Nat} (h : n < (2 ^ 64) ^ 2000) : blen n ≤ 128000 := by
  apply blen_bound
  rw [pow64] at h
  exact h
theorem T151_Dw {n : Nat} (h : n < (2 ^ 64) ^ 5000) : T151 (Dw n, ()) = some ((blen n : Int), ()) := by
  have := T151_eq _ (Dw_ws h)
  rw [nv_Dw] at this
  exact this
theorem lt5000 {n : Nat} (h : n < (2 ^ 64) ^ 2000) : n < (2 ^ 64) ^ 5000 := Nat.lt_trans h (Nat.pow_lt_pow_right (by decide) (by decide))
theorem T148_eq (neg : Bool) (n : Nat) (e : Int) (more : Bool) (hn : n < (2 ^ 64) ^ 2000) (he : -1000000 ≤ e ∧ e ≤ 1000000) : T148 ((neg, Dw n, e, more, ()), ()) = some (topE n e, ()) := by
  show t148 S151.pre S151.F (neg, Dw n, e, more, ()) = _
  unfold t148
  have p0 := T151_Dw (lt5000 hn)
  have hb := big_blen hn
  simp only [pre151 p0, fun151 p0, cond_true]
  rw [wrapI (n := e + (blen n : Int)) (by omega), wrapI (by omega)]
  rfl
/-- what is cut fits -/
theorem quo_lt {n : Nat} {e q : Int} {p : Nat} (h : topE n e - p + 1 ≤ q) : quoE n e q < 2 ^ p := by
  unfold topE at h
  unfold quoE
  have hb := blen_lt n
  by_cases hq : q ≤ e
  · rw [if_pos hq]
    have h1 : n * 2 ^ (e - q).toNat < 2 ^ blen n * 2 ^ (e - q).toNat := Nat.mul_lt_mul_of_pos_right hb (Nat.two_pow_pos _)
    rw [← Nat.pow_add] at h1
    exact Nat.lt_of_lt_of_le h1 (Nat.pow_le_pow_right (by decide) (by omega))
  · rw [if_neg hq, Nat.div_lt_iff_lt_mul (Nat.two_pow_pos _), ← Nat.pow_add]
    exact Nat.lt_of_lt_of_le hb (Nat.pow_le_pow_right (by decide) (by omega))
theorem cut_le {m : Int} {neg : Bool} {n : Nat} {e q : Int} {more : Bool} {p : Nat} (h : topE n e - p + 1 ≤ q) : cutN m neg n e q more ≤ 2 ^ p := by
  have := quo_lt h
  unfold cutN
  split <;> omega
/-- the cut by the program, at the places that it asks for -/
theorem T150_ok (m : Int) (neg : Bool) (n : Nat) (e q : Int) (more : Bool) (hn : n < (2 ^ 64) ^ 2000) (he : -1000000 ≤ e ∧ e ≤ 1000000) {p : Nat} (hp : p ≤ 60) (h1 : topE n e - p + 1 ≤ q) (h2 : q ≤ topE n e ∨ q ≤ 1000) :
    T150 ((neg, Dw n, e, more, ()), m, q, ()) = some (Dw (cutN m neg n e q more), decide (cutR n e q more ≠ 0), ()) := by
  have hb := big_blen hn
  unfold topE at h1 h2
  refine T150_eq m neg n e q more hn (by omega) (by omega) (by omega) fun hs => ?_
  refine ⟨by omega, ?_⟩
  have hl := blen_lt n
  have h3 : n * 2 ^ (2 - (q - e)).toNat < 2 ^ blen n * 2 ^ (2 - (q - e)).toNat := Nat.mul_lt_mul_of_pos_right hl (Nat.two_pow_pos _)
  rw [← Nat.pow_add] at h3
  rw [pow64]
  exact Nat.lt_of_lt_of_le h3 (Nat.pow_le_pow_right (by decide) (by omega))
theorem T152_eq (neg : Bool) (n : Nat) (e : Int) (more : Bool) (f m : Int) (hf : Fm f) (hn : n < (2 ^ 64) ^ 2000) (he : -1000000 ≤ e ∧ e ≤ 1000000) :
    T152 ((neg, Dw n, e, more, ()), rowOf f, m, topE n e, ()) = some (decide (topE n e < 1 - (fX f : Int) ∧ topE n e - fP f + blen (cutN m neg n e (topE n e - fP f + 1) more) < 1 - (fX f : Int)), ()) := by
  show t152 S150.pre S150.F S151.pre S151.F (neg, Dw n, e, more, ()) ((fW f : Int), ((fP f : Int), ((1 - (fX f : Int)), ((fX f : Int), ())))) m (topE n e) = _
  unfold t152
  have hb := big_blen hn
  have hp := fP_lt hf
  have hw := fW_le hf
  have hx := fX_le hf
  have hp8 := fP_ge hf
  have ht : topE n e = e + (blen n : Int) - 1 := rfl
  have p0 := T150_ok m neg n e (topE n e - fP f + 1) more hn he (p := fP f) (by omega) (by omega) (by omega)
  have hc := cut_le (m := m) (neg := neg) (more := more) (n := n) (e := e) (q := topE n e - fP f + 1) (p := fP f) (by omega)
  generalize cutN m neg n e (topE n e - fP f + 1) more = u at *
  have hu : u < (2 ^ 64) ^ 5000 := by
    rw [pow64]
    exact Nat.lt_of_le_of_lt hc (Nat.pow_lt_pow_right (by decide) (by omega))
  have hub : blen u ≤ fP f + 1 := blen_bound (Nat.lt_of_le_of_lt hc (Nat.pow_lt_pow_right (by decide) (by omega)))
  have p1 := T151_Dw hu
  have e1 : IntKind.wrap .i64 (topE n e - (fP f : Int)) = topE n e - (fP f : Int) := wrapI (by omega)
  have e2 : IntKind.wrap .i64 (topE n e - (fP f : Int) + 1) = topE n e - (fP f : Int) + 1 := wrapI (by omega)
  have e3 : IntKind.wrap .i64 (topE n e - (fP f : Int) + (blen u : Int)) = topE n e - (fP f : Int) + (blen u : Int) := wrapI (by omega)
  dsimp only
  rw [e1, e2]
  by_cases h : topE n e ≥ 1 - (fX f : Int)
  · rw [decide_eq_true h, cond_true, decide_eq_false (by omega)]
  · rw [decide_eq_false h, cond_false]
    simp only [pre150 p0, fun150 p0, cond_true, pre151 p1, fun151 p1, e3]
    have : (topE n e < 1 - (fX f : Int)) := by omega
    simp only [this, true_and]
end VL
namespace VL
open Go Vx
/-- the place of the last bit -/
def lowE (f : Int) (t : Int) : Int := (if 1 - (fX f : Int) > t then 1 - (fX f : Int) else t) - fP f + 1
def isTiny (f m : Int) (neg : Bool) (n : Nat) (e : Int) (more : Bool) : Prop := topE n e < 1 - (fX f : Int) ∧ topE n e - fP f + blen (cutN m neg n e (topE n e - fP f + 1) more) < 1 - (fX f : Int)
instance (f m : Int) (neg : Bool) (n : Nat) (e : Int) (more : Bool) : Decidable (isTiny f m neg n e more) := by unfold isTiny; infer_instance
/-- a number's rounding: the bits and the flags -/
def rndN (f m : Int) (neg : Bool) (n : Nat) (e : Int) (more : Bool) : Nat × Nat :=
  if topE n e > fX f then (beyB f m neg, 20)
  else
    let q := lowE f (topE n e)
    let u := cutN m neg n e q more
    if q + blen u - 1 > fX f then (beyB f m neg, 20)
    else ((q - (1 - (fX f : Int) - fP f + 1)).toNat * 2 ^ (fP f - 1) + u + sgnF f neg,
      if cutR n e q more = 0 then 0 else if isTiny f m neg n e more then 24 else 16)
theorem half_eq {f : Int} (hf : Fm f) : (2 * fX f - 1) * 2 ^ (fP f - 1) + 2 ^ fP f + 2 ^ (fP f - 1) = 2 ^ (fW f - 1) := by
  rcases Fm_cases hf with rfl | rfl | rfl | rfl <;> decide
theorem fX_ge {f : Int} (hf : Fm f) : 15 ≤ fX f := by
  rcases Fm_cases hf with rfl | rfl | rfl | rfl <;> decide
theorem T107_eq (neg : Bool) (n : Nat) (e : Int) (more : Bool) (f m : Int) (hf : Fm f) (hn : n < (2 ^ 64) ^ 2000) (he : -1000000 ≤ e ∧ e ≤ 1000000) :
    T107 ((neg, Dw n, e, more, ()), f, rowOf f, m, ()) = some (((rndN f m neg n e more).1 : Int), ((rndN f m neg n e more).2 : Int), ()) := by
  show t107 _ _ _ _ _ _ _ _ _ _ (neg, Dw n, e, more, ()) f ((fW f : Int), ((fP f : Int), ((1 - (fX f : Int)), ((fX f : Int), ())))) m = _
  unfold t107 rndN
  have hb := big_blen hn
  have hp := fP_lt hf
  have hp8 := fP_ge hf
  have hw := fW_le hf
  have hx := fX_le hf
  have hx15 := fX_ge hf
  have ht : topE n e = e + (blen n : Int) - 1 := rfl
  have pt := T148_eq neg n e more hn he
  have pb := T149_eq hf m neg
  have py := T152_eq neg n e more f m hf hn he
  have hrow : rowOf f = ((fW f : Int), ((fP f : Int), ((1 - (fX f : Int)), ((fX f : Int), ())))) := rfl
  rw [hrow] at py
  simp only [pre148 pt, fun148 pt, cond_true]
  by_cases h1 : topE n e > (fX f : Int)
  · rw [if_pos h1, decide_eq_true h1, cond_true]
    simp only [pre149 pb, fun149 pb, cond_true]
    rfl
  rw [if_neg h1, decide_eq_false h1, cond_false]
  have hM : ∃ M : Int, (if 1 - (fX f : Int) > topE n e then 1 - (fX f : Int) else topE n e) = M ∧ topE n e ≤ M ∧ 1 - (fX f : Int) ≤ M ∧ M ≤ fX f ∧ (M = topE n e ∨ M = 1 - (fX f : Int)) := by
    refine ⟨_, rfl, ?_⟩
    split <;> omega
  obtain ⟨M, hMe, m1, m2, m3, m4⟩ := hM
  have hq : lowE f (topE n e) = M - fP f + 1 := by unfold lowE; rw [hMe]
  simp only [hMe, hq]
  have e1 : IntKind.wrap .i64 (M - (fP f : Int)) = M - (fP f : Int) := wrapI (by omega)
  have e2 : IntKind.wrap .i64 (M - (fP f : Int) + 1) = M - (fP f : Int) + 1 := wrapI (by omega)
  simp only [e1, e2]
  have p0 := T150_ok m neg n e (M - (fP f : Int) + 1) more hn he (p := fP f) (by omega) (by omega) (by omega)
  have hc := cut_le (m := m) (neg := neg) (more := more) (n := n) (e := e) (q := M - (fP f : Int) + 1) (p := fP f) (by omega)
  generalize cutN m neg n e (M - (fP f : Int) + 1) more = u at *
  generalize cutR n e (M - (fP f : Int) + 1) more = r at *
  have hP60 : 2 ^ fP f ≤ 2 ^ 60 := Nat.pow_le_pow_right (by decide) (by omega)
  have hu : u < (2 ^ 64) ^ 5000 := by
    rw [pow64]
    exact Nat.lt_of_le_of_lt hc (Nat.pow_lt_pow_right (by decide) (by omega))
  have hub : blen u ≤ fP f + 1 := blen_bound (Nat.lt_of_le_of_lt hc (Nat.pow_lt_pow_right (by decide) (by omega)))
  have p1 := T151_Dw hu
  have e3 : IntKind.wrap .i64 ((fP f : Int) - 1) = ((fP f - 1 : Nat) : Int) := wsub1 _ (by omega)
  have e4 : IntKind.wrap .i64 ((fW f : Int) - 1) = ((fW f - 1 : Nat) : Int) := wsub1 _ (by omega)
  have e5 : IntKind.wrap .i64 (M - (fP f : Int) + 1 + (blen u : Int)) = M - (fP f : Int) + 1 + (blen u : Int) := wrapI (by omega)
  have e6 : IntKind.wrap .i64 (M - (fP f : Int) + 1 + (blen u : Int) - 1) = M - (fP f : Int) + 1 + (blen u : Int) - 1 := wrapI (by omega)
  have e7 : IntKind.wrap .i64 (1 - (fX f : Int) - (fP f : Int)) = 1 - (fX f : Int) - (fP f : Int) := wrapI (by omega)
  have e8 : IntKind.wrap .i64 (1 - (fX f : Int) - (fP f : Int) + 1) = 1 - (fX f : Int) - (fP f : Int) + 1 := wrapI (by omega)
  obtain ⟨k, hk⟩ := Int.eq_ofNat_of_zero_le (show 0 ≤ M - (fP f : Int) + 1 - (1 - (fX f : Int) - (fP f : Int) + 1) by omega)
  have e9 : IntKind.wrap .i64 (M - (fP f : Int) + 1 - (1 - (fX f : Int) - (fP f : Int) + 1)) = (k : Int) := by rw [wrapI (by omega)]; exact hk
  have e10 : IntKind.wrap .u64 (k : Int) = (k : Int) := wrapU (by omega)
  have hkn : (M - (fP f : Int) + 1 - (1 - (fX f : Int) - (fP f : Int) + 1)).toNat = k := by omega
  have hhalf := half_eq hf
  have hk2 : k ≤ 2 * fX f - 1 := by omega
  have hk3 := Nat.mul_le_mul_right (2 ^ (fP f - 1)) hk2
  have hW64 : 2 ^ (fW f - 1) ≤ 2 ^ 63 := Nat.pow_le_pow_right (by decide) (by omega)
  have hpp := Nat.two_pow_pos (fP f - 1)
  have e11 : shlI .u64 (k : Int) ((fP f - 1 : Nat) : Int) = ((k * 2 ^ (fP f - 1) : Nat) : Int) := by
    rw [shlN _ _ (by omega), Nat.mod_eq_of_lt (by omega)]
  have e12 : shlI .u64 1 ((fW f - 1 : Nat) : Int) = ((1 * 2 ^ (fW f - 1) : Nat) : Int) := by rw [shlI_one (by omega), Nat.one_mul]
  generalize hA : k * 2 ^ (fP f - 1) = A at *
  have hbits : A + u < 2 ^ (fW f - 1) := by omega
  have e13 : IntKind.wrap .u64 ((A : Int) + ((u % 2 ^ 64 : Nat) : Int)) = ((A + u : Nat) : Int) := by
    rw [Nat.mod_eq_of_lt (by omega), wrapU (by omega)]; omega
  have hor : ∀ b : Nat, b < 2 ^ (fW f - 1) → orI .u64 (b : Int) ((1 * 2 ^ (fW f - 1) : Nat) : Int) = ((b + 2 ^ (fW f - 1) : Nat) : Int) := fun b hb => by
    have := orN (a := b) (b := 1) (k := fW f - 1) hb (by omega)
    rw [Nat.one_mul] at this ⊢
    exact this
  have hsg : sgnF f neg = if neg then 2 ^ (fW f - 1) else 0 := rfl
  have htd : decide (topE n e < 1 - (fX f : Int) ∧ topE n e - fP f + blen (cutN m neg n e (topE n e - fP f + 1) more) < 1 - (fX f : Int)) = decide (isTiny f m neg n e more) := by
    unfold isTiny; rfl
  rw [htd] at py
  simp only [pre150 p0, fun150 p0, cond_true, e3, nnn, pre151 p1, fun151 p1, e5, e6, e7, e8, e9, e10, e11, e4, e12, hkn, hA]
  rcases Nat.eq_zero_or_pos u with hu0 | hu0
  · subst hu0
    have hl0 : decide ((((Dw 0).length : Nat) : Int) > 0) = false := by rw [Dw_zero]; rfl
    rw [hl0, cond_false]
    by_cases h2 : M - (fP f : Int) + 1 + (blen 0 : Int) - 1 > (fX f : Int)
    · rw [decide_eq_true h2, cond_true, if_pos h2]
      simp only [pre149 pb, fun149 pb, cond_true]
      rfl
    · rw [decide_eq_false h2, cond_false, if_neg h2]
      have hbi := hor (A) (by omega)
      rw [hbi]
      by_cases hr : r = 0
      · rw [if_pos hr, decide_eq_false (p := r ≠ 0) (by omega)]
        simp only [Bool.not_false, cond_true]
        cases neg <;> rfl
      · rw [if_neg hr, decide_eq_true (p := r ≠ 0) hr]
        simp only [Bool.not_true, cond_false, pre152 py, fun152 py, cond_true]
        by_cases hti : isTiny f m neg n e more
        · rw [if_pos hti, decide_eq_true hti]
          cases neg <;> rfl
        · rw [if_neg hti, decide_eq_false hti]
          cases neg <;> rfl
  · have hun : u ≠ 0 := by omega
    simp only [Dw_len_gt hun, Dw_len_pos hun, cond_true, Int.toNat_zero, Dw_get, e13]
    by_cases h2 : M - (fP f : Int) + 1 + (blen u : Int) - 1 > (fX f : Int)
    · rw [decide_eq_true h2, cond_true, if_pos h2]
      simp only [pre149 pb, fun149 pb, cond_true]
      rfl
    · rw [decide_eq_false h2, cond_false, if_neg h2]
      have hbi := hor (A + u) (by omega)
      rw [hbi]
      by_cases hr : r = 0
      · rw [if_pos hr, decide_eq_false (p := r ≠ 0) (by omega)]
        simp only [Bool.not_false, cond_true]
        cases neg <;> rfl
      · rw [if_neg hr, decide_eq_true (p := r ≠ 0) hr]
        simp only [Bool.not_true, cond_false, pre152 py, fun152 py, cond_true]
        by_cases hti : isTiny f m neg n e more
        · rw [if_pos hti, decide_eq_true hti]
          cases neg <;> rfl
        · rw [if_neg hti, decide_eq_false hti]
          cases neg <;> rfl
theorem T105_ok {f m : Int} (hf : Fm f) (hm : 0 ≤ m ∧ m ≤ 5) : T105 (f, m, ()) = some (rowOf f, 0, ()) := by
  show t105 S69.pre S69.F S147.pre S147.F f m = _
  unfold t105
  have p0 := T69_ok hf
  have p1 : T147 (m, ()) = some (0, ()) := by
    show t147 m = _
    unfold t147
    rw [decide_eq_false (show ¬ m < 0 by omega), decide_eq_false (show ¬ m > 5 by omega)]; rfl
  simp only [pre69 p0, fun69 p0, cond_true, pre147 p1, fun147 p1]
  rfl
end VL
namespace VL
open Go Vx
theorem cls_more {r k s ρ : Nat} (hρ : 0 < ρ) (hρ2 : ρ < 2 ^ k) (hs : 1 ≤ s) : clsR (ρ + 2 ^ k * r) (k + s) = clsR r s / 2 * 2 + 1 := by
  unfold clsR
  have hp : 2 ^ (k + s - 1) = 2 ^ k * 2 ^ (s - 1) := by rw [← Nat.pow_add]; congr 1; omega
  rw [hp]
  have hh := Nat.two_pow_pos (s - 1)
  generalize 2 ^ (s - 1) = h at *
  generalize 2 ^ k = K at *
  rw [if_neg (by omega)]
  rcases Nat.lt_trichotomy r h with h1 | h1 | h1
  · have : K * (r + 1) ≤ K * h := Nat.mul_le_mul_left _ h1
    rw [Nat.mul_add, Nat.mul_one] at this
    rw [if_pos (by omega)]
    by_cases hr : r = 0
    · rw [if_pos hr]
    · rw [if_neg hr, if_pos h1]
  · subst h1
    rw [if_neg (by omega), if_neg (by omega), if_neg (by omega), if_neg (by omega), if_pos rfl]
  · have : K * (h + 1) ≤ K * r := Nat.mul_le_mul_left _ h1
    rw [Nat.mul_add, Nat.mul_one] at this
    rw [if_neg (by omega), if_neg (by omega), if_neg (by omega), if_neg (by omega), if_neg (by omega)]
theorem cls_scale {r k s : Nat} (hs : 1 ≤ s) : clsR (2 ^ k * r) (k + s) = clsR r s := by
  unfold clsR
  have hp : 2 ^ (k + s - 1) = 2 ^ k * 2 ^ (s - 1) := by rw [← Nat.pow_add]; congr 1; omega
  rw [hp]
  have hk := Nat.two_pow_pos k
  generalize 2 ^ (s - 1) = h at *
  generalize 2 ^ k = K at *
  have h1 : K * r = 0 ↔ r = 0 := by
    constructor
    · intro h; rcases Nat.mul_eq_zero.1 h with h | h <;> omega
    · intro h; rw [h, Nat.mul_zero]
  have h2 : K * r < K * h ↔ r < h := Nat.mul_lt_mul_left hk
  have h3 : K * r = K * h ↔ r = h := Nat.mul_right_inj (by omega)
  simp only [h1, h2, h3]
theorem mod_split (N k s : Nat) : N % 2 ^ (k + s) = N % 2 ^ k + 2 ^ k * (N / 2 ^ k % 2 ^ s) := by
  rw [Nat.pow_add, Nat.mod_mul]
theorem quoE_lo {n : Nat} {e q : Int} (h : q ≤ e) : quoE n e q = n * 2 ^ (e - q).toNat := if_pos h
theorem quoE_hi {n : Nat} {e q : Int} (h : e < q) : quoE n e q = n / 2 ^ (q - e).toNat := if_neg (by omega)
theorem rstE_lo {n : Nat} {e q : Int} (h : q ≤ e) : rstE n e q = 0 := if_pos h
theorem rstE_hi {n : Nat} {e q : Int} (h : e < q) : rstE n e q = clsR (n % 2 ^ (q - e).toNat) (q - e).toNat := if_neg (by omega)
theorem cutR_f (n : Nat) (e q : Int) : cutR n e q false = rstE n e q := rfl
theorem cutR_t (n : Nat) (e q : Int) : cutR n e q true = rstE n e q / 2 * 2 + 1 := rfl
/-- with a part cut away, and the mark that there was one -/
theorem cut_trunc {N k : Nat} {E q : Int} (hq : N % 2 ^ k ≠ 0 → E + k < q) :
    quoE (N / 2 ^ k) (E + k) q = quoE N E q ∧ cutR (N / 2 ^ k) (E + k) q (decide (N % 2 ^ k ≠ 0)) = cutR N E q false := by
  have hk := Nat.two_pow_pos k
  have hdm := Nat.div_add_mod N (2 ^ k)
  by_cases h1 : E + k < q
  · have es : (q - E).toNat = k + (q - (E + k)).toNat := by omega
    have hs : 1 ≤ (q - (E + k)).toNat := by omega
    rw [quoE_hi h1, quoE_hi (by omega), cutR_f, rstE_hi (e := E) (by omega), es]
    have hrs := rstE_hi (n := N / 2 ^ k) h1
    generalize (q - (E + k)).toNat = s at *
    refine ⟨by rw [Nat.div_div_eq_div_mul, ← Nat.pow_add], ?_⟩
    rw [mod_split]
    by_cases hr : N % 2 ^ k = 0
    · rw [hr, Nat.zero_add, cls_scale hs, show decide ((0 : Nat) ≠ 0) = false by decide, cutR_f, hrs]
    · have hρ : 0 < N % 2 ^ k := by omega
      rw [cls_more hρ (Nat.mod_lt _ hk) hs, decide_eq_true hr, cutR_t, hrs]
  · have hr : N % 2 ^ k = 0 := by
      by_cases h : N % 2 ^ k = 0
      · exact h
      · exact absurd (hq h) h1
    rw [hr, Nat.add_zero] at hdm
    rw [hr]
    clear hq hr
    generalize N / 2 ^ k = n at *
    subst hdm
    have hz : decide ((0 : Nat) ≠ 0) = false := by decide
    rw [hz, quoE_lo (by omega), cutR_f, cutR_f, rstE_lo (by omega)]
    by_cases h2 : q ≤ E
    · rw [quoE_lo h2, rstE_lo h2, show (E + k - q).toNat = k + (E - q).toNat by omega, Nat.pow_add, Nat.mul_comm (2 ^ k) n, Nat.mul_assoc]
      exact ⟨rfl, rfl⟩
    · rw [quoE_hi (by omega), rstE_hi (by omega)]
      have ek : k = (q - E).toNat + (E + k - q).toNat := by omega
      generalize (q - E).toNat = s at *
      generalize (E + k - q).toNat = t at *
      have : 2 ^ k * n = 2 ^ s * (2 ^ t * n) := by rw [ek, Nat.pow_add, Nat.mul_assoc]
      rw [this, Nat.mul_div_cancel_left _ (Nat.two_pow_pos s), Nat.mul_mod_right]
      exact ⟨Nat.mul_comm _ _, rfl⟩
theorem cutN_trunc {m : Int} {neg : Bool} {N k : Nat} {E q : Int} (hq : N % 2 ^ k ≠ 0 → E + k < q) : cutN m neg (N / 2 ^ k) (E + k) q (decide (N % 2 ^ k ≠ 0)) = cutN m neg N E q false := by
  obtain ⟨h1, h2⟩ := cut_trunc hq
  unfold cutN
  rw [h1, h2]
theorem top_trunc {N k : Nat} {E : Int} (hn : N / 2 ^ k ≠ 0) : topE (N / 2 ^ k) (E + k) = topE N E := by
  have hk := Nat.two_pow_pos k
  have h1 : 2 ^ k ≤ N := by
    rcases Nat.lt_or_ge N (2 ^ k) with h | h
    · exact absurd (Nat.div_eq_of_lt h) hn
    · exact h
  have := blen_shift h1
  unfold topE
  omega
theorem rnd_trunc {f m : Int} {neg : Bool} {N k : Nat} {E : Int} (hf : Fm f) (hn : N / 2 ^ k ≠ 0) (hm : N % 2 ^ k ≠ 0 → fP f + 2 ≤ blen (N / 2 ^ k)) : rndN f m neg (N / 2 ^ k) (E + k) (decide (N % 2 ^ k ≠ 0)) = rndN f m neg N E false := by
  have ht := top_trunc (E := E) hn
  have htd : topE (N / 2 ^ k) (E + k) = E + k + (blen (N / 2 ^ k) : Int) - 1 := rfl
  have hq1 : N % 2 ^ k ≠ 0 → E + k < lowE f (topE N E) := fun h => by
    have := hm h
    unfold lowE
    split <;> omega
  have hq2 : N % 2 ^ k ≠ 0 → E + k < topE N E - fP f + 1 := fun h => by
    have := hm h
    omega
  have hti : isTiny f m neg (N / 2 ^ k) (E + k) (decide (N % 2 ^ k ≠ 0)) = isTiny f m neg N E false := by
    unfold isTiny
    rw [ht, cutN_trunc hq2]
  unfold rndN
  simp only [ht, cutN_trunc hq1, (cut_trunc hq1).2, hti]
theorem rnd_scale {f m : Int} {neg : Bool} (hf : Fm f) {n : Nat} (hn : n ≠ 0) (k : Nat) (e : Int) : rndN f m neg (n * 2 ^ k) e false = rndN f m neg n (e + k) false := by
  have hk := Nat.two_pow_pos k
  have := rnd_trunc (f := f) (m := m) (neg := neg) (N := n * 2 ^ k) (k := k) (E := e) hf (by rw [Nat.mul_div_cancel _ hk]; exact hn) (by rw [Nat.mul_mod_left]; omega)
  rw [Nat.mul_div_cancel _ hk, Nat.mul_mod_left] at this
  exact this.symm
end VL
namespace VL
open Go Vx
theorem blen_ge {n k : Nat} (h : 2 ^ k ≤ n) : k + 1 ≤ blen n := by
  have h1 := blen_lt n
  have : k < blen n := (Nat.pow_lt_pow_iff_right (a := 2) (by decide)).1 (Nat.lt_of_le_of_lt h h1)
  omega
end VL
namespace VL
open Go Vx
def Hs (l : List Nat) : Prop := (∀ x ∈ l, x < 2 ^ 32) ∧ l.length ≤ 1000000
theorem Hs.dg {n : Nat} (h : n < 2 ^ 100000) : Hs (dg (2 ^ 32) n) := by
  refine ⟨dg_lt (by decide) n, ?_⟩
  have : n < (2 ^ 32) ^ 3125 := by rw [← Nat.pow_mul]; exact h
  have := dg_len_le (B := 2 ^ 32) (by decide) 3125 n this
  omega
theorem wu_id (n : Nat) (h : n < 2 ^ 64) : IntKind.wrap .u64 (n : Int) = (n : Int) := wrapU (by omega)
theorem app_lt {B : Nat} {l : List Nat} {v : Nat} (h : ∀ x ∈ l, x < B) (hv : v < B) : ∀ x ∈ l ++ [v], x < B := fun x hx => by
  rcases List.mem_append.1 hx with hx | hx
  · exact h x hx
  · have : x = v := by simpa using hx
    rw [this]; exact hv
theorem nv_snoc (B : Nat) (l : List Nat) (v : Nat) : nv B (l ++ [v]) = nv B l + B ^ l.length * v := by
  rw [nv_append]; simp [nv]
end VL
namespace VL
open Go Vx
theorem nv_drop_next (B : Nat) (l : List Nat) (i : Nat) (h : i < l.length) : nv B (l.drop i) = l.getD i 0 + B * nv B (l.drop (i + 1)) := by
  rw [List.drop_eq_getElem_cons h, List.getD_eq_getElem?_getD, List.getElem?_eq_getElem h]; rfl
theorem take_lt {B : Nat} (hB : 2 ≤ B) {l : List Nat} (h : ∀ x ∈ l, x < B) (i : Nat) : nv B (l.take i) < B ^ i := by
  have := nv_lt hB (l.take i) fun x hx => h x (List.mem_of_mem_take hx)
  refine Nat.lt_of_lt_of_le this (Nat.pow_le_pow_right (by omega) ?_)
  rw [List.length_take]
  exact Nat.min_le_left _ _
theorem split_lt {P A A' X Y : Nat} (h : A < P) (hxy : X < Y) : A + P * X < A' + P * Y := by
  have : P * (X + 1) ≤ P * Y := Nat.mul_le_mul_left _ hxy
  rw [Nat.mul_add, Nat.mul_one] at this
  omega
theorem row_lt {B : Nat} (hB : 2 ≤ B) {a b : List Nat} (ha : ∀ x ∈ a, x < B) {i : Nat} (hia : i < a.length) (hib : i < b.length) (hd : nv B (a.drop (i + 1)) = nv B (b.drop (i + 1))) (h : a.getD i 0 < b.getD i 0) : nv B a < nv B b := by
  rw [nv_split B a i (by omega), nv_split B b i (by omega), nv_drop_next B a i hia, nv_drop_next B b i hib, hd]
  exact split_lt (take_lt hB ha i) (by omega)
theorem dg_len_lt {B : Nat} (hB : 2 ≤ B) {x y : Nat} (h : (dg B x).length < (dg B y).length) : x < y := by
  have h1 := dg_len_gt hB x
  rcases Nat.lt_or_ge x y with h2 | h2
  · exact h2
  · have := dg_len_le hB (dg B x).length y (by omega)
    omega
theorem minus_step {P B A A' O a b c c' v : Nat} (h : A + P * c = A' + O) (h2 : a + B * c' = b + c + v) : A + P * a + P * B * c' = A' + P * b + (O + P * v) := by
  have h3 : P * (a + B * c') = P * (b + c + v) := by rw [h2]
  rw [Nat.mul_add, Nat.mul_add, Nat.mul_add, ← Nat.mul_assoc] at h3
  omega
theorem dg_len_mono {B : Nat} (hB : 2 ≤ B) {x y : Nat} (h : y ≤ x) : (dg B y).length ≤ (dg B x).length := by
  rcases Nat.lt_or_ge (dg B x).length (dg B y).length with h1 | h1
  · have := dg_len_lt hB h1; omega
  · exact h1
theorem Hs.len {n : Nat} (h : n < 2 ^ 100000) : (VL.dg (2 ^ 32) n).length ≤ 3125 := by
  have : n < (2 ^ 32) ^ 3125 := by rw [← Nat.pow_mul]; exact h
  exact dg_len_le (B := 2 ^ 32) (by decide) 3125 n this
end VL
namespace VL
open Go Vx
theorem fP_le {f : Int} (hf : Fm f) : fP f ≤ 53 := by
  rcases Fm_cases hf with rfl | rfl | rfl | rfl <;> decide
end VL
namespace VL
open Go Vx
/-- the exact sum as the reference has it -/
def sumD (nx : Bool) (X : Nat) (ex : Int) (ny : Bool) (Y : Nat) (ey : Int) : Bool × Nat × Int :=
  if X = 0 then (ny, Y, ey) else if Y = 0 then (nx, X, ex) else
  let e := if ey < ex then ey else ex
  let a := X * 2 ^ (ex - e).toNat
  let b := Y * 2 ^ (ey - e).toNat
  if nx = ny then (nx, a + b, e) else if b ≤ a then (nx, a - b, e) else (ny, b - a, e)
/-- a number's mantissa and its exponent -/
def mant (f : Int) (a : Nat) : Nat := if eF f a = 0 then mF f a else mF f a + 2 ^ (fP f - 1)
def xpn (f : Int) (a : Nat) : Int := 1 - (fX f : Int) - (fP f : Int) + 1 + (if eF f a = 0 then 0 else (eF f a : Int) - 1)
theorem mF_lt (f : Int) (a : Nat) : mF f a < 2 ^ (fP f - 1) := Nat.mod_lt _ (Nat.two_pow_pos _)
theorem mant_lt {f : Int} (hf : Fm f) (a : Nat) : mant f a < 2 ^ 53 := by
  have h1 := mF_lt f a
  have h2 := fP_ge hf
  have h3 := fP_lt hf
  have h4 := fW_le hf
  have h5 : 2 ^ (fP f - 1) ≤ 2 ^ 52 := Nat.pow_le_pow_right (by decide) (by rcases Fm_cases hf with rfl | rfl | rfl | rfl <;> decide)
  unfold mant
  split <;> omega
theorem eF_lt {f : Int} (hf : Fm f) (a : Nat) : eF f a < 2048 := by
  have : 2 ^ (fW f - fP f) ≤ 2 ^ 11 := Nat.pow_le_pow_right (by decide) (by rcases Fm_cases hf with rfl | rfl | rfl | rfl <;> decide)
  have h : eF f a < 2 ^ (fW f - fP f) := Nat.mod_lt _ (Nat.two_pow_pos _)
  omega
theorem xpn_bound {f : Int} (hf : Fm f) (a : Nat) : -2000 ≤ xpn f a ∧ xpn f a ≤ 2000 := by
  have h1 := eF_lt hf a
  have h2 := fX_le hf
  have h3 := fP_le hf
  have h4 := fX_ge hf
  have h5 := fP_ge hf
  have h6 : (eF f a : Int) ≤ 2 * fX f + 1 := by
    have : eF f a < 2 ^ (fW f - fP f) := Nat.mod_lt _ (Nat.two_pow_pos _)
    have := fX_eq hf
    omega
  unfold xpn
  split <;> omega
/-- is it without end -/
def isInf (f : Int) (a : Nat) : Bool := eF f a == fullF f && mF f a == 0
theorem part_vals {f : Int} {a : Nat} (h : eF f a ≠ fullF f) : nan f a = false ∧ snan f a = false ∧ isInf f a = false := by
  unfold snan nan isInf
  simp [h]
end VL
namespace VL
open Go Vx
theorem T98_ok {f : Int} {a : Nat} (h : chk f a = 0) : T98 (f, (a : Int), ()) = some (sF f a, (eF f a : Int), (mF f a : Int), 0, ()) := by
  obtain ⟨hf, h0⟩ := chk_zero h
  have ha := pat_lt h
  show t98 S66.pre S66.F S90.pre S90.F f a = _
  unfold t98
  have p0 := T66_eq f a ha
  have p2 := T90_eq hf a ha
  have hr1 : decide (0 ≤ f) = true := decide_eq_true hf.1
  have hr2 : decide (f < ((4 : Nat) : Int)) = true := decide_eq_true hf.2
  simp only [row_at hf, hr1, hr2, pre66 p0, fun66 p0, pre90 p2, fun90 p2, h, cond_true, bne_self_eq_false, cond_false]
theorem cls_isInf (f : Int) (a : Nat) : (cls f a == 2 || cls f a == 9) = isInf f a := by
  unfold cls isInf
  cases eF f a == fullF f <;> cases eF f a == 0 <;> cases mF f a == 0 <;> cases sF f a <;> cases mF f a / 2 ^ (fP f - 2) != 0 <;> rfl
end VL
namespace VL
open Go Vx
theorem infB_eq (f : Int) (neg : Bool) : infB f neg = infF f + sgnF f neg := by
  unfold infB infF fullF; rw [Nat.mul_comm]
theorem add_sgn (f : Int) (s : Bool) (x : Nat) : x + sgnF f s = mkF f s x := by
  unfold mkF sgnF; cases s <;> rfl
theorem inf_ge {f : Int} (hf : Fm f) : infF f = (2 * fX f + 1) * 2 ^ (fP f - 1) := by
  unfold infF fullF; rw [← fX_eq hf, Nat.mul_comm]
theorem nan_of_le {f : Int} (hf : Fm f) {a : Nat} (h : absF f a ≤ infF f) : nan f a = false := by
  unfold nan
  rw [eF_abs hf, mF_abs hf]
  by_cases he : absF f a / 2 ^ (fP f - 1) = fullF f
  · have hdm := Nat.div_add_mod (absF f a) (2 ^ (fP f - 1))
    rw [he] at hdm
    unfold infF at h
    have : absF f a % 2 ^ (fP f - 1) = 0 := by omega
    rw [this]; simp
  · simp [he]
/-- a rounded number's magnitude and its flags -/
def rndM (f m : Int) (neg : Bool) (n : Nat) (e : Int) : Nat × Nat :=
  if topE n e > fX f then ((if upw m neg then infF f else infF f - 1), 20)
  else
    let q := lowE f (topE n e)
    let u := cutN m neg n e q false
    if q + blen u - 1 > fX f then ((if upw m neg then infF f else infF f - 1), 20)
    else ((q - (1 - (fX f : Int) - fP f + 1)).toNat * 2 ^ (fP f - 1) + u,
      if cutR n e q false = 0 then 0 else if isTiny f m neg n e false then 24 else 16)
theorem infF_pos {f : Int} (hf : Fm f) : 1 ≤ infF f := by
  rw [inf_ge hf]
  exact Nat.mul_pos (by omega) (Nat.two_pow_pos _)
theorem bey_M {f m : Int} (hf : Fm f) (neg : Bool) : beyB f m neg = mkF f neg (if upw m neg then infF f else infF f - 1) := by
  have := infF_pos hf
  unfold beyB
  rw [infB_eq, ← add_sgn]
  split <;> omega
theorem rnd_M {f : Int} (hf : Fm f) (m : Int) (neg : Bool) (n : Nat) (e : Int) : rndN f m neg n e false = (mkF f neg (rndM f m neg n e).1, (rndM f m neg n e).2) := by
  unfold rndN rndM
  by_cases h : topE n e > fX f
  · rw [if_pos h, if_pos h, bey_M hf]
  · rw [if_neg h, if_neg h]
    dsimp only
    by_cases h2 : lowE f (topE n e) + (blen (cutN m neg n e (lowE f (topE n e)) false) : Int) - 1 > fX f
    · rw [if_pos h2, if_pos h2, bey_M hf]
    · rw [if_neg h2, if_neg h2]
      dsimp only
      rw [add_sgn]
theorem infF_lt {f : Int} (hf : Fm f) : infF f < 2 ^ (fW f - 1) := by have := inf_room hf; omega
theorem mk_place {f : Int} (s : Bool) {x : Nat} (hx : x < 2 ^ (fW f - 1)) : place f (mkF f s x) = bif s then -(x : Int) else x := by
  unfold place
  rw [mk_abs s hx, mk_sgn s hx]
end VL
namespace VL
open Go Vx
def qm (f : Int) : Int := 1 - (fX f : Int) - (fP f : Int) + 1
def cutJ (m : Int) (neg : Bool) (n j : Nat) : Nat :=
  if clsR (n % 2 ^ j) j ≠ 0 ∧ furM m neg (decide (n / 2 ^ j % 2 = 1)) (clsR (n % 2 ^ j) j) = true then n / 2 ^ j + 1 else n / 2 ^ j
/-- a number at the least exponent, rounded, as if there were no end -/
def muM (f m : Int) (neg : Bool) (n : Nat) : Nat := if n < 2 ^ fP f then n else (blen n - fP f) * 2 ^ (fP f - 1) + cutJ m neg n (blen n - fP f)
def limM (f m : Int) (neg : Bool) : Nat := if upw m neg then infF f else infF f - 1
theorem cutJ_bound (m : Int) (neg : Bool) (n j : Nat) : n / 2 ^ j ≤ cutJ m neg n j ∧ cutJ m neg n j ≤ n / 2 ^ j + 1 := by
  unfold cutJ; split <;> omega
theorem quo_bound {f : Int} (hf : Fm f) {n : Nat} (h : ¬ n < 2 ^ fP f) : 1 ≤ blen n - fP f ∧ 2 ^ (fP f - 1) ≤ n / 2 ^ (blen n - fP f) ∧ n / 2 ^ (blen n - fP f) < 2 ^ fP f := by
  have hP := fP_ge hf
  have hb := blen_ge (n := n) (k := fP f) (by omega)
  obtain ⟨j, hj⟩ : ∃ j, blen n = fP f + j := ⟨blen n - fP f, by omega⟩
  have h1 := blen_lt n
  have h2 := blen_le (n := n) (by have := Nat.two_pow_pos (fP f); omega)
  rw [hj] at h1 h2 ⊢
  rw [Nat.add_sub_cancel_left]
  refine ⟨by omega, ?_, ?_⟩
  · rw [Nat.le_div_iff_mul_le (Nat.two_pow_pos _), ← Nat.pow_add]
    refine Nat.le_trans (Nat.pow_le_pow_right (by decide) ?_) h2
    omega
  · rw [Nat.div_lt_iff_lt_mul (Nat.two_pow_pos _), ← Nat.pow_add]
    exact h1
theorem two_P {f : Int} (hf : Fm f) : 2 ^ fP f = 2 * 2 ^ (fP f - 1) := by
  have hP := fP_ge hf
  rw [← Nat.pow_succ', Nat.succ_eq_add_one, Nat.sub_add_cancel (by omega)]
theorem rndM_mu {f : Int} (hf : Fm f) (m : Int) (neg : Bool) {n : Nat} (h0 : n ≠ 0) :
    rndM f m neg n (qm f) = if infF f ≤ muM f m neg n then (limM f m neg, 20) else (muM f m neg n, if n < 2 ^ fP f then 0 else if clsR (n % 2 ^ (blen n - fP f)) (blen n - fP f) = 0 then 0 else 16) := by
  have hP := fP_ge hf
  have hX := fX_ge hf
  have h2p := two_P hf
  have hpp := Nat.two_pow_pos (fP f - 1)
  have hinf := inf_ge hf
  have hb1 := blen_pos h0
  have htop : topE n (qm f) = qm f + (blen n : Int) - 1 := rfl
  have hqm : qm f = 1 - (fX f : Int) - (fP f : Int) + 1 := rfl
  unfold rndM
  by_cases h : n < 2 ^ fP f
  · have hb := blen_bound h
    have hlow : lowE f (topE n (qm f)) = qm f := by unfold lowE; split <;> omega
    have hmu : muM f m neg n = n := by unfold muM; rw [if_pos h]
    have hcut : cutR n (qm f) (qm f) false = 0 := by rw [cutR_f, rstE_lo (Int.le_refl _)]
    have hcn : cutN m neg n (qm f) (qm f) false = n := by
      unfold cutN
      rw [if_neg (fun hh => hh.1 hcut), quoE_lo (Int.le_refl _), Int.sub_self]
      simp
    have hlt : 2 * 2 ^ (fP f - 1) ≤ (2 * fX f + 1) * 2 ^ (fP f - 1) := Nat.mul_le_mul_right _ (by omega)
    rw [if_neg (show ¬ topE n (qm f) > fX f by omega), hlow, hmu, if_neg (show ¬ infF f ≤ n by omega)]
    dsimp only
    rw [hcn, if_neg (show ¬ qm f + (blen n : Int) - 1 > fX f by omega), hcut, if_pos rfl, if_pos h, ← hqm, Int.sub_self]
    simp
  · obtain ⟨hj1, hq1, hq2⟩ := quo_bound hf h
    have hblen : (blen n : Int) = (fP f : Int) + ((blen n - fP f : Nat) : Int) := by omega
    obtain ⟨hc1, hc2⟩ := cutJ_bound m neg n (blen n - fP f)
    have hmu : muM f m neg n = (blen n - fP f) * 2 ^ (fP f - 1) + cutJ m neg n (blen n - fP f) := by unfold muM; rw [if_neg h]
    rw [hmu, if_neg h]
    have hlow : lowE f (topE n (qm f)) = qm f + ((blen n - fP f : Nat) : Int) := by unfold lowE; rw [if_neg (by omega)]; omega
    have htiny : ¬ isTiny f m neg n (qm f) false := fun hh => by have := hh.1; omega
    have hcr : cutR n (qm f) (qm f + ((blen n - fP f : Nat) : Int)) false = clsR (n % 2 ^ (blen n - fP f)) (blen n - fP f) := by
      rw [cutR_f, rstE_hi (by omega), show (qm f + ((blen n - fP f : Nat) : Int) - qm f).toNat = blen n - fP f by omega]
    have hcn : cutN m neg n (qm f) (qm f + ((blen n - fP f : Nat) : Int)) false = cutJ m neg n (blen n - fP f) := by
      unfold cutN cutJ
      rw [hcr, quoE_hi (by omega), show (qm f + ((blen n - fP f : Nat) : Int) - qm f).toNat = blen n - fP f by omega]
    rw [hlow]
    dsimp only
    rw [hcn, hcr, show (qm f + ((blen n - fP f : Nat) : Int) - (1 - (fX f : Int) - (fP f : Int) + 1)).toNat = blen n - fP f by omega]
    generalize blen n - fP f = j at *
    generalize cutJ m neg n j = u at *
    generalize n / 2 ^ j = Q at *
    by_cases ht : topE n (qm f) > fX f
    · have hj2 : 2 * fX f + 1 ≤ j + 1 := by omega
      have := Nat.mul_le_mul_right (2 ^ (fP f - 1)) hj2
      rw [Nat.add_mul j, Nat.one_mul] at this
      rw [if_pos ht, if_pos (show infF f ≤ j * 2 ^ (fP f - 1) + u by omega)]
      rfl
    · rw [if_neg ht]
      rcases Nat.lt_or_ge u (2 ^ fP f) with hu | hu
      · have hbu := blen_bound hu
        have hj2 : j + 2 ≤ 2 * fX f + 1 := by omega
        have := Nat.mul_le_mul_right (2 ^ (fP f - 1)) hj2
        rw [Nat.add_mul] at this
        rw [if_neg (show ¬ qm f + (j : Int) + (blen u : Int) - 1 > fX f by omega), if_neg (show ¬ infF f ≤ j * 2 ^ (fP f - 1) + u by omega), if_neg htiny]
      · have hbu := blen_ge hu
        have hbu2 := blen_bound (n := u) (k := fP f + 1) (by rw [Nat.pow_succ]; omega)
        by_cases hj2 : j + 3 ≤ 2 * fX f + 1
        · have := Nat.mul_le_mul_right (2 ^ (fP f - 1)) hj2
          rw [Nat.add_mul] at this
          rw [if_neg (show ¬ qm f + (j : Int) + (blen u : Int) - 1 > fX f by omega), if_neg (show ¬ infF f ≤ j * 2 ^ (fP f - 1) + u by omega), if_neg htiny]
        · have hj3 : 2 * fX f + 1 ≤ j + 2 := by omega
          have := Nat.mul_le_mul_right (2 ^ (fP f - 1)) hj3
          rw [Nat.add_mul j] at this
          rw [if_pos (show qm f + (j : Int) + (blen u : Int) - 1 > fX f by omega), if_pos (show infF f ≤ j * 2 ^ (fP f - 1) + u by omega)]
          rfl
end VL
namespace VL
open Go Vx
/-- a number as whole least steps -/
def vI (f : Int) (neg : Bool) (X : Nat) (e : Int) : Int := bif neg then -((X * 2 ^ (e - qm f).toNat : Nat) : Int) else ((X * 2 ^ (e - qm f).toNat : Nat) : Int)
theorem rnd_qm {f : Int} (hf : Fm f) (m : Int) (neg : Bool) {N : Nat} (hN : N ≠ 0) {e : Int} (he : qm f ≤ e) :
    rndN f m neg N e false = (mkF f neg (rndM f m neg (N * 2 ^ (e - qm f).toNat) (qm f)).1, (rndM f m neg (N * 2 ^ (e - qm f).toNat) (qm f)).2) := by
  have h := rnd_scale (f := f) (m := m) (neg := neg) hf hN (e - qm f).toNat (qm f)
  rw [show qm f + ((e - qm f).toNat : Int) = e by omega] at h
  rw [← h, rnd_M hf]
end VL
namespace VL
open Go Vx
theorem xpn_ge (f : Int) (a : Nat) : qm f ≤ xpn f a := by
  unfold xpn qm
  split <;> omega
/-- six values, the first i of them filled -/
def sl (V : Nat → Int) (i : Nat) : List Int := [if 0 < i then V 0 else 0, if 1 < i then V 1 else 0, if 2 < i then V 2 else 0, if 3 < i then V 3 else 0, if 4 < i then V 4 else 0, if 5 < i then V 5 else 0]
end VL
namespace VL
open Go Vx
def vA (f : Int) (a : Nat) : Int := vI f (sF f a) (mant f a) (xpn f a)
theorem abs_zero_mant {f : Int} (hf : Fm f) {a : Nat} (h : absF f a = 0) : mant f a = 0 := by
  have h0 := (zero_iff hf a).1 h
  unfold mant; rw [if_pos h0.1]; exact h0.2
theorem place_abs (f : Int) (a : Nat) : (place f a).natAbs = absF f a := by
  unfold place; cases sF f a <;> simp
theorem num_full {f : Int} {a : Nat} (h : nan f a = false) : isInf f a = decide (eF f a = fullF f) := by
  unfold nan at h
  unfold isInf
  cases h1 : (eF f a == fullF f)
  · rw [decide_eq_false (by simpa using h1)]; rfl
  · rw [decide_eq_true (by simpa using h1)]
    rw [h1] at h
    cases h2 : (mF f a == 0)
    · rw [bne, h2] at h; cases h
    · rfl
theorem place_le {f : Int} (hf : Fm f) {a : Nat} (h : nan f a = false) : -(infF f : Int) ≤ place f a ∧ place f a ≤ infF f := by
  have := num_le hf h
  unfold place
  cases sF f a <;> simp only [cond_true, cond_false] <;> omega
theorem place_inf {f : Int} (hf : Fm f) {a : Nat} (h : isInf f a = true) : place f a = bif sF f a then -(infF f : Int) else infF f := by
  have e1 : absF f a = infF f := (inf_iff hf a).2 (by unfold isInf at h; simpa using h)
  unfold place; rw [e1]
theorem inf_of_place {f : Int} (hf : Fm f) {a : Nat} (h : (place f a).natAbs = infF f) : isInf f a = true := by
  rw [place_abs] at h
  have := (inf_iff hf a).1 h
  unfold isInf; simp [this.1, this.2]
end VL
namespace Vx
open Go Go.Proofs
/-- vernier/format.Value -/
abbrev I40 : Sig := [(false, .int .i64), (false, .int .u64)]
abbrev O40 : Sig := [(true, .pair (.bool) (.pair (.slice (.int .u64)) (.pair (.int .i64) (.unit)))), (false, .int .i64)]
noncomputable def t40 (p66 : DenS I66 → Bool) (f66 : DenS I66 → DenS O66) (p90 : DenS I90 → Bool) (f90 : DenS I90 → DenS O90) (p91 : DenS I91 → Bool) (f91 : DenS I91 → DenS O91) (p92 : DenS I92 → Bool) (f92 : DenS I92 → DenS O92) (a0 : Den (.int .i64)) (a1 : Den (.int .u64)) : Option (DenS O40) :=
  bif (p66 (a0, (a1, ()))) then
  (bif ((f66 (a0, (a1, ()))).1 != (0 : Int)) then
  (some ((false, ([], ((0 : Int), ()))), (f66 (a0, (a1, ())))))
  else bif (bif (decide ((0 : Int) ≤ a0)) then (decide (a0 < ((4 : Nat) : Int))) else false) then
  (bif (p90 ((Vx.k_rows.getD (Int.toNat a0) ((0 : Int), ((0 : Int), ((0 : Int), ((0 : Int), ()))))), (a1, ()))) then
  (bif (p91 ((Go.IntKind.wrap Go.IntKind.i64 ((Vx.k_rows.getD (Int.toNat a0) ((0 : Int), ((0 : Int), ((0 : Int), ((0 : Int), ()))))).1 - (Vx.k_rows.getD (Int.toNat a0) ((0 : Int), ((0 : Int), ((0 : Int), ((0 : Int), ()))))).2.1)), ())) then
  (bif ((f90 ((Vx.k_rows.getD (Int.toNat a0) ((0 : Int), ((0 : Int), ((0 : Int), ((0 : Int), ()))))), (a1, ()))).2.1 == (f91 ((Go.IntKind.wrap Go.IntKind.i64 ((Vx.k_rows.getD (Int.toNat a0) ((0 : Int), ((0 : Int), ((0 : Int), ((0 : Int), ()))))).1 - (Vx.k_rows.getD (Int.toNat a0) ((0 : Int), ((0 : Int), ((0 : Int), ((0 : Int), ()))))).2.1)), ())).1) then
  (some ((false, ([], ((0 : Int), ()))), ((40 : Int), ())))
  else bif ((f90 ((Vx.k_rows.getD (Int.toNat a0) ((0 : Int), ((0 : Int), ((0 : Int), ((0 : Int), ()))))), (a1, ()))).2.1 == (0 : Int)) then
  (bif ((f90 ((Vx.k_rows.getD (Int.toNat a0) ((0 : Int), ((0 : Int), ((0 : Int), ((0 : Int), ()))))), (a1, ()))).2.2.1 == (0 : Int)) then
  (some ((false, ([], ((0 : Int), ()))), ((0 : Int), ())))
  else bif (p92 (f90 ((Vx.k_rows.getD (Int.toNat a0) ((0 : Int), ((0 : Int), ((0 : Int), ((0 : Int), ()))))), (a1, ()))).2.2) then
  (bif (decide ((0 : Int) ≤ (f92 (f90 ((Vx.k_rows.getD (Int.toNat a0) ((0 : Int), ((0 : Int), ((0 : Int), ((0 : Int), ()))))), (a1, ()))).2.2).1)) then
  (some (((f90 ((Vx.k_rows.getD (Int.toNat a0) ((0 : Int), ((0 : Int), ((0 : Int), ((0 : Int), ()))))), (a1, ()))).1, (((Vx.shrI Go.IntKind.u64 (f90 ((Vx.k_rows.getD (Int.toNat a0) ((0 : Int), ((0 : Int), ((0 : Int), ((0 : Int), ()))))), (a1, ()))).2.2.1 (f92 (f90 ((Vx.k_rows.getD (Int.toNat a0) ((0 : Int), ((0 : Int), ((0 : Int), ((0 : Int), ()))))), (a1, ()))).2.2).1) :: []), ((Go.IntKind.wrap Go.IntKind.i64 ((Go.IntKind.wrap Go.IntKind.i64 ((Go.IntKind.wrap Go.IntKind.i64 ((Go.IntKind.wrap Go.IntKind.i64 ((Go.IntKind.wrap Go.IntKind.i64 ((Go.IntKind.wrap Go.IntKind.i64 (1 : Int)) - (1 : Int))) + (Vx.k_rows.getD (Int.toNat a0) ((0 : Int), ((0 : Int), ((0 : Int), ((0 : Int), ()))))).2.2.1)) - (Vx.k_rows.getD (Int.toNat a0) ((0 : Int), ((0 : Int), ((0 : Int), ((0 : Int), ()))))).2.1)) + (1 : Int))) + (f92 (f90 ((Vx.k_rows.getD (Int.toNat a0) ((0 : Int), ((0 : Int), ((0 : Int), ((0 : Int), ()))))), (a1, ()))).2.2).1)), ()))), ((0 : Int), ())))
  else none)
  else none)
  else bif (decide ((0 : Int) ≤ (Go.IntKind.wrap Go.IntKind.i64 ((Vx.k_rows.getD (Int.toNat a0) ((0 : Int), ((0 : Int), ((0 : Int), ((0 : Int), ()))))).2.1 - (1 : Int))))) then
  (bif ((Vx.orI Go.IntKind.u64 (f90 ((Vx.k_rows.getD (Int.toNat a0) ((0 : Int), ((0 : Int), ((0 : Int), ((0 : Int), ()))))), (a1, ()))).2.2.1 (Vx.shlI Go.IntKind.u64 (1 : Int) (Go.IntKind.wrap Go.IntKind.i64 ((Vx.k_rows.getD (Int.toNat a0) ((0 : Int), ((0 : Int), ((0 : Int), ((0 : Int), ()))))).2.1 - (1 : Int))))) == (0 : Int)) then
  (some ((false, ([], ((0 : Int), ()))), ((0 : Int), ())))
  else bif (p92 ((Vx.orI Go.IntKind.u64 (f90 ((Vx.k_rows.getD (Int.toNat a0) ((0 : Int), ((0 : Int), ((0 : Int), ((0 : Int), ()))))), (a1, ()))).2.2.1 (Vx.shlI Go.IntKind.u64 (1 : Int) (Go.IntKind.wrap Go.IntKind.i64 ((Vx.k_rows.getD (Int.toNat a0) ((0 : Int), ((0 : Int), ((0 : Int), ((0 : Int), ()))))).2.1 - (1 : Int))))), ())) then
  (bif (decide ((0 : Int) ≤ (f92 ((Vx.orI Go.IntKind.u64 (f90 ((Vx.k_rows.getD (Int.toNat a0) ((0 : Int), ((0 : Int), ((0 : Int), ((0 : Int), ()))))), (a1, ()))).2.2.1 (Vx.shlI Go.IntKind.u64 (1 : Int) (Go.IntKind.wrap Go.IntKind.i64 ((Vx.k_rows.getD (Int.toNat a0) ((0 : Int), ((0 : Int), ((0 : Int), ((0 : Int), ()))))).2.1 - (1 : Int))))), ())).1)) then
  (some (((f90 ((Vx.k_rows.getD (Int.toNat a0) ((0 : Int), ((0 : Int), ((0 : Int), ((0 : Int), ()))))), (a1, ()))).1, (((Vx.shrI Go.IntKind.u64 (Vx.orI Go.IntKind.u64 (f90 ((Vx.k_rows.getD (Int.toNat a0) ((0 : Int), ((0 : Int), ((0 : Int), ((0 : Int), ()))))), (a1, ()))).2.2.1 (Vx.shlI Go.IntKind.u64 (1 : Int) (Go.IntKind.wrap Go.IntKind.i64 ((Vx.k_rows.getD (Int.toNat a0) ((0 : Int), ((0 : Int), ((0 : Int), ((0 : Int), ()))))).2.1 - (1 : Int))))) (f92 ((Vx.orI Go.IntKind.u64 (f90 ((Vx.k_rows.getD (Int.toNat a0) ((0 : Int), ((0 : Int), ((0 : Int), ((0 : Int), ()))))), (a1, ()))).2.2.1 (Vx.shlI Go.IntKind.u64 (1 : Int) (Go.IntKind.wrap Go.IntKind.i64 ((Vx.k_rows.getD (Int.toNat a0) ((0 : Int), ((0 : Int), ((0 : Int), ((0 : Int), ()))))).2.1 - (1 : Int))))), ())).1) :: []), ((Go.IntKind.wrap Go.IntKind.i64 ((Go.IntKind.wrap Go.IntKind.i64 ((Go.IntKind.wrap Go.IntKind.i64 ((Go.IntKind.wrap Go.IntKind.i64 ((Go.IntKind.wrap Go.IntKind.i64 ((Go.IntKind.wrap Go.IntKind.i64 (f90 ((Vx.k_rows.getD (Int.toNat a0) ((0 : Int), ((0 : Int), ((0 : Int), ((0 : Int), ()))))), (a1, ()))).2.1) - (1 : Int))) + (Vx.k_rows.getD (Int.toNat a0) ((0 : Int), ((0 : Int), ((0 : Int), ((0 : Int), ()))))).2.2.1)) - (Vx.k_rows.getD (Int.toNat a0) ((0 : Int), ((0 : Int), ((0 : Int), ((0 : Int), ()))))).2.1)) + (1 : Int))) + (f92 ((Vx.orI Go.IntKind.u64 (f90 ((Vx.k_rows.getD (Int.toNat a0) ((0 : Int), ((0 : Int), ((0 : Int), ((0 : Int), ()))))), (a1, ()))).2.2.1 (Vx.shlI Go.IntKind.u64 (1 : Int) (Go.IntKind.wrap Go.IntKind.i64 ((Vx.k_rows.getD (Int.toNat a0) ((0 : Int), ((0 : Int), ((0 : Int), ((0 : Int), ()))))).2.1 - (1 : Int))))), ())).1)), ()))), ((0 : Int), ())))
  else none)
  else none)
  else none)
  else none)
  else none)
  else none)
  else none
theorem r40 (p66 : DenS I66 → Bool) (f66 : DenS I66 → DenS O66) (p90 : DenS I90 → Bool) (f90 : DenS I90 → DenS O90) (p91 : DenS I91 → Bool) (f91 : DenS I91 → DenS O91) (p92 : DenS I92 → Bool) (f92 : DenS I92 → DenS O92) (a0 : Den (.int .i64)) (a1 : Den (.int .u64)) :
    run { P := Go.Proofs.Tryd.prog, sums := [(66, ⟨I66, O66, p66, f66⟩), (90, ⟨I90, O90, p90, f90⟩), (91, ⟨I91, O91, p91, f91⟩), (92, ⟨I92, O92, p92, f92⟩)], loops := [], globs := G1 } 9 40 Go.Proofs.Tryd.f40 I40 O40 (a0, a1, ()) = t40 p66 f66 p90 f90 p91 f91 p92 f92 a0 a1 := by kernel_rfl
noncomputable def T40 (x : DenS I40) : Option (DenS O40) := t40 S66.pre S66.F S90.pre S90.F S91.pre S91.F S92.pre S92.F x.1 x.2.1
noncomputable def C40 : Cfg := { P := Go.Proofs.Tryd.prog, sums := [(66, S66), (90, S90), (91, S91), (92, S92)], loops := [], globs := G1 }
noncomputable def S40 : Sum := sumOf I40 O40 T40 (DenS.dflt O40)
theorem S40_sound : Sound Go.Proofs.Tryd.prog G1 40 S40 :=
  fn_sound C40 9 40 Go.Proofs.Tryd.f40 mixedOk (by kernel_rfl) (by kernel_rfl) (by kernel_rfl) ⟨S66_sound.more G01, ⟨S90_sound.more G01, ⟨S91_sound.more G01, ⟨S92_sound, trivial⟩⟩⟩⟩ trivial I40 O40 T40 _ fun x => r40 S66.pre S66.F S90.pre S90.F S91.pre S91.F S92.pre S92.F x.1 x.2.1
/-- vernier/vernierlaw06.vOf -/
abbrev I50 : Sig := [(false, .int .i64), (false, .int .u64)]
abbrev O50 : Sig := [(true, .pair (.bool) (.pair (.slice (.int .u64)) (.pair (.int .i64) (.unit))))]
noncomputable def t50 (p40 : DenS I40 → Bool) (f40 : DenS I40 → DenS O40) (a0 : Den (.int .i64)) (a1 : Den (.int .u64)) : Option (DenS O50) :=
  bif (p40 (a0, (a1, ()))) then
  (some ((f40 (a0, (a1, ()))).1, ()))
  else none
noncomputable def T50 (x : DenS I50) : Option (DenS O50) := t50 S40.pre S40.F x.1 x.2.1
/-- vernier/dyad.refuses -/
abbrev I103 : Sig := [(true, .pair (.bool) (.pair (.slice (.int .u64)) (.pair (.int .i64) (.unit))))]
abbrev O103 : Sig := [(false, .int .i64)]
noncomputable def t103 (a0 : Den (.pair (.bool) (.pair (.slice (.int .u64)) (.pair (.int .i64) (.unit))))) : Option (DenS O103) :=
  bif (decide ((a0.2.1.length : Int) > (1024 : Int))) then
  (some ((5 : Int), ()))
  else bif ((decide (a0.2.2.1 < (-(40000 : Int)))) || (decide (a0.2.2.1 > (40000 : Int)))) then
  (some ((30 : Int), ()))
  else some ((0 : Int), ())
theorem r103 (a0 : Den (.pair (.bool) (.pair (.slice (.int .u64)) (.pair (.int .i64) (.unit))))) :
    run { P := Go.Proofs.Tryd.prog, sums := [], loops := [], globs := G1 } 9 103 Go.Proofs.Tryd.f103 I103 O103 (a0, ()) = t103 a0 := by kernel_rfl
noncomputable def T103 (x : DenS I103) : Option (DenS O103) := t103 x.1
noncomputable def C103 : Cfg := { P := Go.Proofs.Tryd.prog, sums := [], loops := [], globs := G1 }
noncomputable def S103 : Sum := sumOf I103 O103 T103 (DenS.dflt O103)
theorem S103_sound : Sound Go.Proofs.Tryd.prog G1 103 S103 :=
  fn_sound C103 9 103 Go.Proofs.Tryd.f103 mixedOk (by kernel_rfl) (by kernel_rfl) (by kernel_rfl) trivial trivial I103 O103 T103 _ fun x => r103 x.1
/-- vernier/dyad.two -/
abbrev I99 : Sig := [(true, .pair (.bool) (.pair (.slice (.int .u64)) (.pair (.int .i64) (.unit)))), (true, .pair (.bool) (.pair (.slice (.int .u64)) (.pair (.int .i64) (.unit))))]
abbrev O99 : Sig := [(false, .int .i64)]
noncomputable def t99 (p103 : DenS I103 → Bool) (f103 : DenS I103 → DenS O103) (a0 : Den (.pair (.bool) (.pair (.slice (.int .u64)) (.pair (.int .i64) (.unit))))) (a1 : Den (.pair (.bool) (.pair (.slice (.int .u64)) (.pair (.int .i64) (.unit))))) : Option (DenS O99) :=
  bif (p103 ((a0.1, a0.2), ())) then
  (bif ((f103 ((a0.1, a0.2), ())).1 != (0 : Int)) then
  (some (f103 ((a0.1, a0.2), ())))
  else bif (p103 ((a1.1, a1.2), ())) then
  (some (f103 ((a1.1, a1.2), ())))
  else none)
  else none
theorem r99 (p103 : DenS I103 → Bool) (f103 : DenS I103 → DenS O103) (a0 : Den (.pair (.bool) (.pair (.slice (.int .u64)) (.pair (.int .i64) (.unit))))) (a1 : Den (.pair (.bool) (.pair (.slice (.int .u64)) (.pair (.int .i64) (.unit))))) :
    run { P := Go.Proofs.Tryd.prog, sums := [(103, ⟨I103, O103, p103, f103⟩)], loops := [], globs := G1 } 9 99 Go.Proofs.Tryd.f99 I99 O99 (a0, a1, ()) = t99 p103 f103 a0 a1 := by kernel_rfl
noncomputable def T99 (x : DenS I99) : Option (DenS O99) := t99 S103.pre S103.F x.1 x.2.1
noncomputable def C99 : Cfg := { P := Go.Proofs.Tryd.prog, sums := [(103, S103)], loops := [], globs := G1 }
noncomputable def S99 : Sum := sumOf I99 O99 T99 (DenS.dflt O99)
theorem S99_sound : Sound Go.Proofs.Tryd.prog G1 99 S99 :=
  fn_sound C99 9 99 Go.Proofs.Tryd.f99 mixedOk (by kernel_rfl) (by kernel_rfl) (by kernel_rfl) ⟨S103_sound, trivial⟩ trivial I99 O99 T99 _ fun x => r99 S103.pre S103.F x.1 x.2.1
/-- vernier/dyad.odd -/
abbrev I100 : Sig := [(true, .pair (.bool) (.pair (.slice (.int .u64)) (.pair (.int .i64) (.unit))))]
abbrev O100 : Sig := [(true, .pair (.bool) (.pair (.slice (.int .u64)) (.pair (.int .i64) (.unit))))]
abbrev P100_5 : Pat := ⟨42, [(4, .one (.v .i64)), (3, .one (.sl (.int .u64))), (1, .one (.ptr 0 0)), (2, .one (.ptr 1 0))], [.raw [.bool, .sl (.int .u64), .v .i64], .raw [.bool, .sl (.int .u64), .v .i64]]⟩
abbrev A100_5 : List (Nat × Shape) := []
abbrev X100_5 : List (Nat × Pat) := [(0, ⟨42, [(4, .one (.v .i64)), (3, .one (.sl (.int .u64))), (1, .one (.ptr 0 0)), (2, .one (.ptr 1 0))], [.raw [.bool, .sl (.int .u64), .v .i64], .raw [.bool, .sl (.int .u64), .v .i64]]⟩)]
abbrev Q100_5 : Option Pat := none
noncomputable def h100_5 (p102 : DenS I102 → Bool) (f102 : DenS I102 → DenS O102) (p92 : DenS I92 → Bool) (f92 : DenS I92 → DenS O92) (p141 : DenS I141 → Bool) (f141 : DenS I141 → DenS O141) {R : Type} (L : Pat.D P100_5 → Option R) (e : OutT X100_5 Q100_5 → Option R) (x : Pat.D P100_5) : Option R :=
  bif ((decide ((0 : Int) ≤ (Vx.quoI Go.IntKind.i64 x.1.1 (64 : Int)))) && (decide ((Vx.quoI Go.IntKind.i64 x.1.1 (64 : Int)) < (x.1.2.1.length : Int)))) then
  (bif ((x.1.2.1.getD (Int.toNat (Vx.quoI Go.IntKind.i64 x.1.1 (64 : Int))) (0 : Int)) == (0 : Int)) then
  ((L (((Go.IntKind.wrap Go.IntKind.i64 (x.1.1 + (64 : Int))), (x.1.2.1, ((), ((), ())))), x.2)))
  else (e (.inl ((x.1.1, (x.1.2.1, ((), ((), ())))), x.2))))
  else none
theorem s100_5 (p102 : DenS I102 → Bool) (f102 : DenS I102 → DenS O102) (p92 : DenS I92 → Bool) (f92 : DenS I92 → DenS O92) (p141 : DenS I141 → Bool) (f141 : DenS I141 → DenS O141) (w100_5 : Pat.D P100_5 → Option (OutT X100_5 Q100_5)) (d : Nat) (R : Type) (L : Pat.D P100_5 → Option R) (e : OutT X100_5 Q100_5 → Option R) (x : Pat.D P100_5) :
    lStep { P := Go.Proofs.Tryd.prog, sums := [(102, ⟨I102, O102, p102, f102⟩), (92, ⟨I92, O92, p92, f92⟩), (141, ⟨I141, O141, p141, f141⟩)], loops := [(100, 5, LoopSpec.of P100_5 A100_5 X100_5 Q100_5 w100_5)], globs := G1 } (d + 2) 100 (bodyOf Go.Proofs.Tryd.f100 5) P100_5 A100_5 X100_5 Q100_5 (R := R) L e x = h100_5 p102 f102 p92 f92 p141 f141 L e x := by kernel_rfl
theorem m100_5 (p102 : DenS I102 → Bool) (f102 : DenS I102 → DenS O102) (p92 : DenS I92 → Bool) (f92 : DenS I92 → DenS O92) (p141 : DenS I141 → Bool) (f141 : DenS I141 → DenS O141) : Par fun L e x => h100_5 p102 f102 p92 f92 p141 f141 L e x := by
  intro A B rel L L' e e' h0 hL he x
  unfold h100_5
  repeat' (first | exact h0 | exact hL _ | exact he _ | apply rel_cond | (apply rel_obind h0; intro _) | (apply rel_obind2 <;> intro _))
noncomputable def t100 (p102 : DenS I102 → Bool) (f102 : DenS I102 → DenS O102) (p92 : DenS I92 → Bool) (f92 : DenS I92 → DenS O92) (p141 : DenS I141 → Bool) (f141 : DenS I141 → DenS O141) (w100_5 : Pat.D P100_5 → Option (OutT X100_5 Q100_5)) (a0 : Den (.pair (.bool) (.pair (.slice (.int .u64)) (.pair (.int .i64) (.unit))))) : Option (DenS O100) :=
  bif (p102 (a0.2.1, ())) then
  (bif (((f102 (a0.2.1, ())).1.length : Int) == (0 : Int)) then
  (some ((false, ([], ((0 : Int), ()))), ()))
  else Vx.obind (w100_5 (((0 : Int), ((f102 (a0.2.1, ())).1, ((), ((), ())))), ((a0.1, a0.2), ((false, ([], ((0 : Int), ()))), ())))) fun y2 =>
  Vx.obind2 y2 (fun y3 =>
  bif ((decide ((0 : Int) ≤ (Vx.quoI Go.IntKind.i64 y3.1.1 (64 : Int)))) && (decide ((Vx.quoI Go.IntKind.i64 y3.1.1 (64 : Int)) < (y3.1.2.1.length : Int)))) then
  (bif (p92 ((y3.1.2.1.getD (Int.toNat (Vx.quoI Go.IntKind.i64 y3.1.1 (64 : Int))) (0 : Int)), ())) then
  (bif (p141 (y3.1.2.1, ((Go.IntKind.wrap Go.IntKind.i64 (y3.1.1 + (f92 ((y3.1.2.1.getD (Int.toNat (Vx.quoI Go.IntKind.i64 y3.1.1 (64 : Int))) (0 : Int)), ())).1)), ()))) then
  (some ((y3.2.1.1, ((f141 (y3.1.2.1, ((Go.IntKind.wrap Go.IntKind.i64 (y3.1.1 + (f92 ((y3.1.2.1.getD (Int.toNat (Vx.quoI Go.IntKind.i64 y3.1.1 (64 : Int))) (0 : Int)), ())).1)), ()))).1, ((Go.IntKind.wrap Go.IntKind.i64 (y3.2.1.2.2.1 + (Go.IntKind.wrap Go.IntKind.i64 (y3.1.1 + (f92 ((y3.1.2.1.getD (Int.toNat (Vx.quoI Go.IntKind.i64 y3.1.1 (64 : Int))) (0 : Int)), ())).1)))), ()))), ()))
  else none)
  else none)
  else none) (fun z3 =>
  none))
  else none
theorem r100 (p102 : DenS I102 → Bool) (f102 : DenS I102 → DenS O102) (p92 : DenS I92 → Bool) (f92 : DenS I92 → DenS O92) (p141 : DenS I141 → Bool) (f141 : DenS I141 → DenS O141) (w100_5 : Pat.D P100_5 → Option (OutT X100_5 Q100_5)) (a0 : Den (.pair (.bool) (.pair (.slice (.int .u64)) (.pair (.int .i64) (.unit))))) :
    run { P := Go.Proofs.Tryd.prog, sums := [(102, ⟨I102, O102, p102, f102⟩), (92, ⟨I92, O92, p92, f92⟩), (141, ⟨I141, O141, p141, f141⟩)], loops := [(100, 5, LoopSpec.of P100_5 A100_5 X100_5 Q100_5 w100_5)], globs := G1 } 9 100 Go.Proofs.Tryd.f100 I100 O100 (a0, ()) = t100 p102 f102 p92 f92 p141 f141 w100_5 a0 := by kernel_rfl
noncomputable def W100_5 : P100_5.D → Option (OutT X100_5 Q100_5) := lfix fun L => h100_5 S102.pre S102.F S92.pre S92.F S141.pre S141.F L some
noncomputable def T100 (x : DenS I100) : Option (DenS O100) := t100 S102.pre S102.F S92.pre S92.F S141.pre S141.F W100_5 x.1
noncomputable def C100 : Cfg := { P := Go.Proofs.Tryd.prog, sums := [(102, S102), (92, S92), (141, S141)], loops := [(100, 5, LoopSpec.of P100_5 A100_5 X100_5 Q100_5 W100_5)], globs := G1 }
noncomputable def S100 : Sum := sumOf I100 O100 T100 (DenS.dflt O100)
theorem S100_sound : Sound Go.Proofs.Tryd.prog G1 100 S100 :=
  fn_sound C100 9 100 Go.Proofs.Tryd.f100 mixedOk (by kernel_rfl) (by kernel_rfl) (by kernel_rfl) ⟨S102_sound, ⟨S92_sound, ⟨S141_sound, trivial⟩⟩⟩ ⟨rfl, fun d => loopOk_of (fun L e x => h100_5 S102.pre S102.F S92.pre S92.F S141.pre S141.F L e x) (m100_5 S102.pre S102.F S92.pre S92.F S141.pre S141.F) (fun R L e x => s100_5 S102.pre S102.F S92.pre S92.F S141.pre S141.F W100_5 d R L e x), trivial⟩ I100 O100 T100 _ fun x => r100 S102.pre S102.F S92.pre S92.F S141.pre S141.F W100_5 x.1
/-- vernier/dyad.raised -/
abbrev I172 : Sig := [(false, .slice (.int .u64)), (false, .int .i64)]
abbrev O172 : Sig := [(false, .slice (.int .u64))]
abbrev P172_6 : Pat := ⟨57, [(25, .one (.v .i64)), (24, .one (.sl (.int .u64))), (5, .one (.v .i64)), (6, .one (.v .u64)), (26, .one (.v .i64)), (7, .one (.own 0))], [.arr (.int .u64)]⟩
abbrev A172_6 : List (Nat × Shape) := []
abbrev X172_6 : List (Nat × Pat) := [(0, ⟨57, [(7, .one (.own 0))], [.arr (.int .u64)]⟩)]
abbrev Q172_6 : Option Pat := none
noncomputable def h172_6 (p102 : DenS I102 → Bool) (f102 : DenS I102 → DenS O102) {R : Type} (L : Pat.D P172_6 → Option R) (e : OutT X172_6 Q172_6 → Option R) (x : Pat.D P172_6) : Option R :=
  bif (decide (x.1.2.2.2.2.1 < x.1.1)) then
  (bif ((decide ((0 : Int) ≤ x.1.2.2.2.2.1)) && (decide (x.1.2.2.2.2.1 < (x.1.2.1.length : Int)))) then
  (bif ((decide ((0 : Int) ≤ (Go.IntKind.wrap Go.IntKind.i64 (x.1.2.2.1 + x.1.2.2.2.2.1)))) && (decide ((Go.IntKind.wrap Go.IntKind.i64 (x.1.2.2.1 + x.1.2.2.2.2.1)) < (x.2.1.length : Int)))) then
  (bif ((decide ((0 : Int) ≤ (Go.IntKind.wrap Go.IntKind.i64 (x.1.2.2.1 + x.1.2.2.2.2.1)))) && (decide ((Go.IntKind.wrap Go.IntKind.i64 (x.1.2.2.1 + x.1.2.2.2.2.1)) < (x.2.1.length : Int)))) then
  (bif (decide (x.1.2.2.2.1 > (0 : Int))) then
  (bif ((decide ((0 : Int) ≤ (Go.IntKind.wrap Go.IntKind.i64 ((Go.IntKind.wrap Go.IntKind.i64 (x.1.2.2.1 + x.1.2.2.2.2.1)) + (1 : Int))))) && (decide ((Go.IntKind.wrap Go.IntKind.i64 ((Go.IntKind.wrap Go.IntKind.i64 (x.1.2.2.1 + x.1.2.2.2.2.1)) + (1 : Int))) < ((x.2.1.set (Int.toNat (Go.IntKind.wrap Go.IntKind.i64 (x.1.2.2.1 + x.1.2.2.2.2.1))) (Vx.orI Go.IntKind.u64 (x.2.1.getD (Int.toNat (Go.IntKind.wrap Go.IntKind.i64 (x.1.2.2.1 + x.1.2.2.2.2.1))) (0 : Int)) (Vx.shlI Go.IntKind.u64 (x.1.2.1.getD (Int.toNat x.1.2.2.2.2.1) (0 : Int)) x.1.2.2.2.1))).length : Int)))) then
  ((L ((x.1.1, (x.1.2.1, (x.1.2.2.1, (x.1.2.2.2.1, ((Go.IntKind.wrap Go.IntKind.i64 (x.1.2.2.2.2.1 + (1 : Int))), ((), ())))))), (((x.2.1.set (Int.toNat (Go.IntKind.wrap Go.IntKind.i64 (x.1.2.2.1 + x.1.2.2.2.2.1))) (Vx.orI Go.IntKind.u64 (x.2.1.getD (Int.toNat (Go.IntKind.wrap Go.IntKind.i64 (x.1.2.2.1 + x.1.2.2.2.2.1))) (0 : Int)) (Vx.shlI Go.IntKind.u64 (x.1.2.1.getD (Int.toNat x.1.2.2.2.2.1) (0 : Int)) x.1.2.2.2.1))).set (Int.toNat (Go.IntKind.wrap Go.IntKind.i64 ((Go.IntKind.wrap Go.IntKind.i64 (x.1.2.2.1 + x.1.2.2.2.2.1)) + (1 : Int)))) (Vx.shrI Go.IntKind.u64 (x.1.2.1.getD (Int.toNat x.1.2.2.2.2.1) (0 : Int)) (Go.IntKind.wrap Go.IntKind.u64 ((64 : Int) - x.1.2.2.2.1)))), ()))))
  else none)
  else (L ((x.1.1, (x.1.2.1, (x.1.2.2.1, (x.1.2.2.2.1, ((Go.IntKind.wrap Go.IntKind.i64 (x.1.2.2.2.2.1 + (1 : Int))), ((), ())))))), ((x.2.1.set (Int.toNat (Go.IntKind.wrap Go.IntKind.i64 (x.1.2.2.1 + x.1.2.2.2.2.1))) (Vx.orI Go.IntKind.u64 (x.2.1.getD (Int.toNat (Go.IntKind.wrap Go.IntKind.i64 (x.1.2.2.1 + x.1.2.2.2.2.1))) (0 : Int)) (Vx.shlI Go.IntKind.u64 (x.1.2.1.getD (Int.toNat x.1.2.2.2.2.1) (0 : Int)) x.1.2.2.2.1))), ()))))
  else none)
  else none)
  else none)
  else (e (.inl (((), ()), x.2)))
theorem s172_6 (p102 : DenS I102 → Bool) (f102 : DenS I102 → DenS O102) (w172_6 : Pat.D P172_6 → Option (OutT X172_6 Q172_6)) (d : Nat) (R : Type) (L : Pat.D P172_6 → Option R) (e : OutT X172_6 Q172_6 → Option R) (x : Pat.D P172_6) :
    lStep { P := Go.Proofs.Tryd.prog, sums := [(102, ⟨I102, O102, p102, f102⟩)], loops := [(172, 6, LoopSpec.of P172_6 A172_6 X172_6 Q172_6 w172_6)], globs := G1 } (d + 2) 172 (bodyOf Go.Proofs.Tryd.f172 6) P172_6 A172_6 X172_6 Q172_6 (R := R) L e x = h172_6 p102 f102 L e x := by kernel_rfl
theorem m172_6 (p102 : DenS I102 → Bool) (f102 : DenS I102 → DenS O102) : Par fun L e x => h172_6 p102 f102 L e x := by
  intro A B rel L L' e e' h0 hL he x
  unfold h172_6
  repeat' (first | exact h0 | exact hL _ | exact he _ | apply rel_cond | (apply rel_obind h0; intro _) | (apply rel_obind2 <;> intro _))
noncomputable def t172 (p102 : DenS I102 → Bool) (f102 : DenS I102 → DenS O102) (w172_6 : Pat.D P172_6 → Option (OutT X172_6 Q172_6)) (a0 : Den (.slice (.int .u64))) (a1 : Den (.int .i64)) : Option (DenS O172) :=
  bif ((a0.length : Int) == (0 : Int)) then
  (some ([], ()))
  else bif ((decide ((0 : Int) ≤ (Go.IntKind.wrap Go.IntKind.i64 ((Go.IntKind.wrap Go.IntKind.i64 ((Vx.quoI Go.IntKind.i64 a1 (64 : Int)) + (a0.length : Int))) + (1 : Int))))) && (decide (((Go.IntKind.wrap Go.IntKind.i64 ((Go.IntKind.wrap Go.IntKind.i64 ((Vx.quoI Go.IntKind.i64 a1 (64 : Int)) + (a0.length : Int))) + (1 : Int))) * (8 : Int)) ≤ (140737488355328 : Int)))) then
  (Vx.obind (w172_6 (((a0.length : Int), (a0, ((Vx.quoI Go.IntKind.i64 a1 (64 : Int)), ((Go.IntKind.wrap Go.IntKind.u64 (Int.tmod a1 (64 : Int))), ((0 : Int), ((), ())))))), ((List.replicate (Int.toNat (Go.IntKind.wrap Go.IntKind.i64 ((Go.IntKind.wrap Go.IntKind.i64 ((Vx.quoI Go.IntKind.i64 a1 (64 : Int)) + (a0.length : Int))) + (1 : Int)))) (0 : Int)), ()))) fun y2 =>
  Vx.obind2 y2 (fun y3 =>
  bif (p102 y3.2) then
  (some (f102 y3.2))
  else none) (fun z3 =>
  none))
  else none
theorem r172 (p102 : DenS I102 → Bool) (f102 : DenS I102 → DenS O102) (w172_6 : Pat.D P172_6 → Option (OutT X172_6 Q172_6)) (a0 : Den (.slice (.int .u64))) (a1 : Den (.int .i64)) :
    run { P := Go.Proofs.Tryd.prog, sums := [(102, ⟨I102, O102, p102, f102⟩)], loops := [(172, 6, LoopSpec.of P172_6 A172_6 X172_6 Q172_6 w172_6)], globs := G1 } 9 172 Go.Proofs.Tryd.f172 I172 O172 (a0, a1, ()) = t172 p102 f102 w172_6 a0 a1 := by kernel_rfl
noncomputable def W172_6 : P172_6.D → Option (OutT X172_6 Q172_6) := lfix fun L => h172_6 S102.pre S102.F L some
noncomputable def T172 (x : DenS I172) : Option (DenS O172) := t172 S102.pre S102.F W172_6 x.1 x.2.1
noncomputable def C172 : Cfg := { P := Go.Proofs.Tryd.prog, sums := [(102, S102)], loops := [(172, 6, LoopSpec.of P172_6 A172_6 X172_6 Q172_6 W172_6)], globs := G1 }
noncomputable def S172 : Sum := sumOf I172 O172 T172 (DenS.dflt O172)
theorem S172_sound : Sound Go.Proofs.Tryd.prog G1 172 S172 :=
  fn_sound C172 9 172 Go.Proofs.Tryd.f172 mixedOk (by kernel_rfl) (by kernel_rfl) (by kernel_rfl) ⟨S102_sound, trivial⟩ ⟨rfl, fun d => loopOk_of (fun L e x => h172_6 S102.pre S102.F L e x) (m172_6 S102.pre S102.F) (fun R L e x => s172_6 S102.pre S102.F W172_6 d R L e x), trivial⟩ I172 O172 T172 _ fun x => r172 S102.pre S102.F W172_6 x.1 x.2.1
/-- vernier/dyad.aligned -/
abbrev I142 : Sig := [(true, .pair (.bool) (.pair (.slice (.int .u64)) (.pair (.int .i64) (.unit)))), (true, .pair (.bool) (.pair (.slice (.int .u64)) (.pair (.int .i64) (.unit))))]
abbrev O142 : Sig := [(false, .slice (.int .u64)), (false, .slice (.int .u64)), (false, .int .i64)]
noncomputable def t142 (p172 : DenS I172 → Bool) (f172 : DenS I172 → DenS O172) (a0 : Den (.pair (.bool) (.pair (.slice (.int .u64)) (.pair (.int .i64) (.unit))))) (a1 : Den (.pair (.bool) (.pair (.slice (.int .u64)) (.pair (.int .i64) (.unit))))) : Option (DenS O142) :=
  bif (p172 (a0.2.1, ((Go.IntKind.wrap Go.IntKind.i64 (a0.2.2.1 - (if (a1.2.2.1 < a0.2.2.1) then a1.2.2.1 else a0.2.2.1))), ()))) then
  (bif (p172 (a1.2.1, ((Go.IntKind.wrap Go.IntKind.i64 (a1.2.2.1 - (if (a1.2.2.1 < a0.2.2.1) then a1.2.2.1 else a0.2.2.1))), ()))) then
  (some ((f172 (a0.2.1, ((Go.IntKind.wrap Go.IntKind.i64 (a0.2.2.1 - (if (a1.2.2.1 < a0.2.2.1) then a1.2.2.1 else a0.2.2.1))), ()))).1, ((f172 (a1.2.1, ((Go.IntKind.wrap Go.IntKind.i64 (a1.2.2.1 - (if (a1.2.2.1 < a0.2.2.1) then a1.2.2.1 else a0.2.2.1))), ()))).1, ((if (a1.2.2.1 < a0.2.2.1) then a1.2.2.1 else a0.2.2.1), ()))))
  else none)
  else none
theorem r142 (p172 : DenS I172 → Bool) (f172 : DenS I172 → DenS O172) (a0 : Den (.pair (.bool) (.pair (.slice (.int .u64)) (.pair (.int .i64) (.unit))))) (a1 : Den (.pair (.bool) (.pair (.slice (.int .u64)) (.pair (.int .i64) (.unit))))) :
    run { P := Go.Proofs.Tryd.prog, sums := [(172, ⟨I172, O172, p172, f172⟩)], loops := [], globs := G1 } 9 142 Go.Proofs.Tryd.f142 I142 O142 (a0, a1, ()) = t142 p172 f172 a0 a1 := by kernel_rfl
noncomputable def T142 (x : DenS I142) : Option (DenS O142) := t142 S172.pre S172.F x.1 x.2.1
noncomputable def C142 : Cfg := { P := Go.Proofs.Tryd.prog, sums := [(172, S172)], loops := [], globs := G1 }
noncomputable def S142 : Sum := sumOf I142 O142 T142 (DenS.dflt O142)
theorem S142_sound : Sound Go.Proofs.Tryd.prog G1 142 S142 :=
  fn_sound C142 9 142 Go.Proofs.Tryd.f142 mixedOk (by kernel_rfl) (by kernel_rfl) (by kernel_rfl) ⟨S172_sound, trivial⟩ trivial I142 O142 T142 _ fun x => r142 S172.pre S172.F x.1 x.2.1
/-- vernier/nat.Cmp -/
abbrev I144 : Sig := [(false, .slice (.int .u64)), (false, .slice (.int .u64))]
abbrev O144 : Sig := [(false, .int .i64)]
abbrev P144_7 : Pat := ⟨49, [(0, .one (.sl (.int .u64))), (1, .one (.sl (.int .u64))), (5, .one (.v .i64))], []⟩
abbrev A144_7 : List (Nat × Shape) := []
abbrev X144_7 : List (Nat × Pat) := [(1, ⟨49, [], []⟩)]
abbrev Q144_7 : Option Pat := (some ⟨49, [(4, .one (.v .i64))], []⟩)
noncomputable def h144_7 (p173 : DenS I173 → Bool) (f173 : DenS I173 → DenS O173) {R : Type} (L : Pat.D P144_7 → Option R) (e : OutT X144_7 Q144_7 → Option R) (x : Pat.D P144_7) : Option R :=
  bif (decide (x.1.2.2.1 ≥ (0 : Int))) then
  (bif ((decide ((0 : Int) ≤ x.1.2.2.1)) && (decide (x.1.2.2.1 < (x.1.1.length : Int)))) then
  (bif ((decide ((0 : Int) ≤ x.1.2.2.1)) && (decide (x.1.2.2.1 < (x.1.2.1.length : Int)))) then
  (bif (decide ((x.1.1.getD (Int.toNat x.1.2.2.1) (0 : Int)) < (x.1.2.1.getD (Int.toNat x.1.2.2.1) (0 : Int)))) then
  ((e (.inr (((-(1 : Int)), ()), ()))))
  else bif ((decide ((0 : Int) ≤ x.1.2.2.1)) && (decide (x.1.2.2.1 < (x.1.1.length : Int)))) then
  (bif ((decide ((0 : Int) ≤ x.1.2.2.1)) && (decide (x.1.2.2.1 < (x.1.2.1.length : Int)))) then
  (bif (decide ((x.1.1.getD (Int.toNat x.1.2.2.1) (0 : Int)) > (x.1.2.1.getD (Int.toNat x.1.2.2.1) (0 : Int)))) then
  ((e (.inr (((1 : Int), ()), ()))))
  else (L ((x.1.1, (x.1.2.1, ((Go.IntKind.wrap Go.IntKind.i64 (x.1.2.2.1 - (1 : Int))), ()))), ())))
  else none)
  else none)
  else none)
  else none)
  else (e (.inl ((), ())))
theorem s144_7 (p173 : DenS I173 → Bool) (f173 : DenS I173 → DenS O173) (w144_7 : Pat.D P144_7 → Option (OutT X144_7 Q144_7)) (d : Nat) (R : Type) (L : Pat.D P144_7 → Option R) (e : OutT X144_7 Q144_7 → Option R) (x : Pat.D P144_7) :
    lStep { P := Go.Proofs.Tryd.prog, sums := [(173, ⟨I173, O173, p173, f173⟩)], loops := [(144, 7, LoopSpec.of P144_7 A144_7 X144_7 Q144_7 w144_7)], globs := G1 } (d + 2) 144 (bodyOf Go.Proofs.Tryd.f144 7) P144_7 A144_7 X144_7 Q144_7 (R := R) L e x = h144_7 p173 f173 L e x := by kernel_rfl
theorem m144_7 (p173 : DenS I173 → Bool) (f173 : DenS I173 → DenS O173) : Par fun L e x => h144_7 p173 f173 L e x := by
  intro A B rel L L' e e' h0 hL he x
  unfold h144_7
  repeat' (first | exact h0 | exact hL _ | exact he _ | apply rel_cond | (apply rel_obind h0; intro _) | (apply rel_obind2 <;> intro _))
noncomputable def t144 (p173 : DenS I173 → Bool) (f173 : DenS I173 → DenS O173) (w144_7 : Pat.D P144_7 → Option (OutT X144_7 Q144_7)) (a0 : Den (.slice (.int .u64))) (a1 : Den (.slice (.int .u64))) : Option (DenS O144) :=
  bif (p173 (a0, ())) then
  (bif (p173 (a1, ())) then
  (bif (decide (((f173 (a0, ())).1.length : Int) < ((f173 (a1, ())).1.length : Int))) then
  (some ((-(1 : Int)), ()))
  else bif (decide (((f173 (a0, ())).1.length : Int) > ((f173 (a1, ())).1.length : Int))) then
  (some ((1 : Int), ()))
  else Vx.obind (w144_7 (((f173 (a0, ())).1, ((f173 (a1, ())).1, ((Go.IntKind.wrap Go.IntKind.i64 (((f173 (a0, ())).1.length : Int) - (1 : Int))), ()))), ())) fun y4 =>
  Vx.obind2 y4 (fun y5 =>
  some ((0 : Int), ())) (fun z5 =>
  some z5.1))
  else none)
  else none
theorem r144 (p173 : DenS I173 → Bool) (f173 : DenS I173 → DenS O173) (w144_7 : Pat.D P144_7 → Option (OutT X144_7 Q144_7)) (a0 : Den (.slice (.int .u64))) (a1 : Den (.slice (.int .u64))) :
    run { P := Go.Proofs.Tryd.prog, sums := [(173, ⟨I173, O173, p173, f173⟩)], loops := [(144, 7, LoopSpec.of P144_7 A144_7 X144_7 Q144_7 w144_7)], globs := G1 } 9 144 Go.Proofs.Tryd.f144 I144 O144 (a0, a1, ()) = t144 p173 f173 w144_7 a0 a1 := by kernel_rfl
noncomputable def W144_7 : P144_7.D → Option (OutT X144_7 Q144_7) := lfix fun L => h144_7 S173.pre S173.F L some
noncomputable def T144 (x : DenS I144) : Option (DenS O144) := t144 S173.pre S173.F W144_7 x.1 x.2.1
noncomputable def C144 : Cfg := { P := Go.Proofs.Tryd.prog, sums := [(173, S173)], loops := [(144, 7, LoopSpec.of P144_7 A144_7 X144_7 Q144_7 W144_7)], globs := G1 }
noncomputable def S144 : Sum := sumOf I144 O144 T144 (DenS.dflt O144)
theorem S144_sound : Sound Go.Proofs.Tryd.prog G1 144 S144 :=
  fn_sound C144 9 144 Go.Proofs.Tryd.f144 mixedOk (by kernel_rfl) (by kernel_rfl) (by kernel_rfl) ⟨S173_sound, trivial⟩ ⟨rfl, fun d => loopOk_of (fun L e x => h144_7 S173.pre S173.F L e x) (m144_7 S173.pre S173.F) (fun R L e x => s144_7 S173.pre S173.F W144_7 d R L e x), trivial⟩ I144 O144 T144 _ fun x => r144 S173.pre S173.F W144_7 x.1 x.2.1
/-- vernier/nat.less -/
abbrev I1174 : Sig := [(true, .slice (.int .u64)), (false, .slice (.int .u64))]
abbrev O1174 : Sig := [(true, .slice (.int .u64))]
abbrev P1174_3 : Pat := ⟨37, [(9, .one (.v .i64)), (1, .one (.sl (.int .u64))), (5, .one (.v .u64)), (10, .one (.v .i64)), (0, .one (.own 0))], [.arr (.int .u64)]⟩
abbrev A1174_3 : List (Nat × Shape) := []
abbrev X1174_3 : List (Nat × Pat) := [(0, ⟨37, [(0, .one (.own 0))], [.arr (.int .u64)]⟩)]
abbrev Q1174_3 : Option Pat := none
noncomputable def h1174_3 (p1173 : DenS I1173 → Bool) (f1173 : DenS I1173 → DenS O1173) (p157 : DenS I157 → Bool) (f157 : DenS I157 → DenS O157) (p173 : DenS I173 → Bool) (f173 : DenS I173 → DenS O173) {R : Type} (L : Pat.D P1174_3 → Option R) (e : OutT X1174_3 Q1174_3 → Option R) (x : Pat.D P1174_3) : Option R :=
  bif (decide (x.1.2.2.2.1 < x.1.1)) then
  (bif (decide (x.1.2.2.2.1 < (x.1.2.1.length : Int))) then
  (bif ((decide ((0 : Int) ≤ x.1.2.2.2.1)) && (decide (x.1.2.2.2.1 < (x.1.2.1.length : Int)))) then
  (bif ((decide ((0 : Int) ≤ x.1.2.2.2.1)) && (decide (x.1.2.2.2.1 < (x.2.1.length : Int)))) then
  (bif (p157 ((x.2.1.getD (Int.toNat x.1.2.2.2.1) (0 : Int)), ((x.1.2.1.getD (Int.toNat x.1.2.2.2.1) (0 : Int)), (x.1.2.2.1, ())))) then
  (bif ((decide ((0 : Int) ≤ x.1.2.2.2.1)) && (decide (x.1.2.2.2.1 < (x.2.1.length : Int)))) then
  ((L ((x.1.1, (x.1.2.1, ((f157 ((x.2.1.getD (Int.toNat x.1.2.2.2.1) (0 : Int)), ((x.1.2.1.getD (Int.toNat x.1.2.2.2.1) (0 : Int)), (x.1.2.2.1, ())))).2.1, ((Go.IntKind.wrap Go.IntKind.i64 (x.1.2.2.2.1 + (1 : Int))), ((), ()))))), ((x.2.1.set (Int.toNat x.1.2.2.2.1) (f157 ((x.2.1.getD (Int.toNat x.1.2.2.2.1) (0 : Int)), ((x.1.2.1.getD (Int.toNat x.1.2.2.2.1) (0 : Int)), (x.1.2.2.1, ())))).1), ()))))
  else none)
  else none)
  else none)
  else none)
  else bif ((decide ((0 : Int) ≤ x.1.2.2.2.1)) && (decide (x.1.2.2.2.1 < (x.2.1.length : Int)))) then
  (bif (p157 ((x.2.1.getD (Int.toNat x.1.2.2.2.1) (0 : Int)), ((0 : Int), (x.1.2.2.1, ())))) then
  (bif ((decide ((0 : Int) ≤ x.1.2.2.2.1)) && (decide (x.1.2.2.2.1 < (x.2.1.length : Int)))) then
  ((L ((x.1.1, (x.1.2.1, ((f157 ((x.2.1.getD (Int.toNat x.1.2.2.2.1) (0 : Int)), ((0 : Int), (x.1.2.2.1, ())))).2.1, ((Go.IntKind.wrap Go.IntKind.i64 (x.1.2.2.2.1 + (1 : Int))), ((), ()))))), ((x.2.1.set (Int.toNat x.1.2.2.2.1) (f157 ((x.2.1.getD (Int.toNat x.1.2.2.2.1) (0 : Int)), ((0 : Int), (x.1.2.2.1, ())))).1), ()))))
  else none)
  else none)
  else none)
  else (e (.inl (((), ()), x.2)))
theorem s1174_3 (p1173 : DenS I1173 → Bool) (f1173 : DenS I1173 → DenS O1173) (p157 : DenS I157 → Bool) (f157 : DenS I157 → DenS O157) (p173 : DenS I173 → Bool) (f173 : DenS I173 → DenS O173) (w1174_3 : Pat.D P1174_3 → Option (OutT X1174_3 Q1174_3)) (d : Nat) (R : Type) (L : Pat.D P1174_3 → Option R) (e : OutT X1174_3 Q1174_3 → Option R) (x : Pat.D P1174_3) :
    lStep { P := Go.Proofs.Tryd.prog, sums := [(173, ⟨I1173, O1173, p1173, f1173⟩), (157, ⟨I157, O157, p157, f157⟩), (173, ⟨I173, O173, p173, f173⟩)], loops := [(174, 3, LoopSpec.of P1174_3 A1174_3 X1174_3 Q1174_3 w1174_3)], globs := G1, keep := true } (d + 2) 174 (bodyOf Go.Proofs.Tryd.f174 3) P1174_3 A1174_3 X1174_3 Q1174_3 (R := R) L e x = h1174_3 p1173 f1173 p157 f157 p173 f173 L e x := by kernel_rfl
theorem m1174_3 (p1173 : DenS I1173 → Bool) (f1173 : DenS I1173 → DenS O1173) (p157 : DenS I157 → Bool) (f157 : DenS I157 → DenS O157) (p173 : DenS I173 → Bool) (f173 : DenS I173 → DenS O173) : Par fun L e x => h1174_3 p1173 f1173 p157 f157 p173 f173 L e x := by
  intro A B rel L L' e e' h0 hL he x
  unfold h1174_3
  repeat' (first | exact h0 | exact hL _ | exact he _ | apply rel_cond | (apply rel_obind h0; intro _) | (apply rel_obind2 <;> intro _))
noncomputable def t1174 (p1173 : DenS I1173 → Bool) (f1173 : DenS I1173 → DenS O1173) (p157 : DenS I157 → Bool) (f157 : DenS I157 → DenS O157) (p173 : DenS I173 → Bool) (f173 : DenS I173 → DenS O173) (w1174_3 : Pat.D P1174_3 → Option (OutT X1174_3 Q1174_3)) (a0 : Den (.slice (.int .u64))) (a1 : Den (.slice (.int .u64))) : Option (DenS O1174) :=
  Vx.obind (w1174_3 (((a0.length : Int), (a1, ((0 : Int), ((0 : Int), ((), ()))))), (a0, ()))) fun y0 =>
  Vx.obind2 y0 (fun y1 =>
  bif (p1173 y1.2) then
  (some (f1173 y1.2))
  else none) (fun z1 =>
  none)
theorem r1174 (p1173 : DenS I1173 → Bool) (f1173 : DenS I1173 → DenS O1173) (p157 : DenS I157 → Bool) (f157 : DenS I157 → DenS O157) (p173 : DenS I173 → Bool) (f173 : DenS I173 → DenS O173) (w1174_3 : Pat.D P1174_3 → Option (OutT X1174_3 Q1174_3)) (a0 : Den (.slice (.int .u64))) (a1 : Den (.slice (.int .u64))) :
    run { P := Go.Proofs.Tryd.prog, sums := [(173, ⟨I1173, O1173, p1173, f1173⟩), (157, ⟨I157, O157, p157, f157⟩), (173, ⟨I173, O173, p173, f173⟩)], loops := [(174, 3, LoopSpec.of P1174_3 A1174_3 X1174_3 Q1174_3 w1174_3)], globs := G1, keep := true } 9 174 Go.Proofs.Tryd.f174 I1174 O1174 (a0, a1, ()) = t1174 p1173 f1173 p157 f157 p173 f173 w1174_3 a0 a1 := by kernel_rfl
noncomputable def W1174_3 : P1174_3.D → Option (OutT X1174_3 Q1174_3) := lfix fun L => h1174_3 S1173.pre S1173.F S157.pre S157.F S173.pre S173.F L some
noncomputable def T1174 (x : DenS I1174) : Option (DenS O1174) := t1174 S1173.pre S1173.F S157.pre S157.F S173.pre S173.F W1174_3 x.1 x.2.1
noncomputable def C1174 : Cfg := { P := Go.Proofs.Tryd.prog, sums := [(173, S1173), (157, S157), (173, S173)], loops := [(174, 3, LoopSpec.of P1174_3 A1174_3 X1174_3 Q1174_3 W1174_3)], globs := G1, keep := true }
noncomputable def S1174 : Sum := sumOf I1174 O1174 T1174 (DenS.dflt O1174)
theorem S1174_sound : Sound Go.Proofs.Tryd.prog G1 174 S1174 :=
  fn_sound C1174 9 174 Go.Proofs.Tryd.f174 mixedOk (by kernel_rfl) (by kernel_rfl) (by kernel_rfl) ⟨S1173_sound, ⟨S157_sound, ⟨S173_sound, trivial⟩⟩⟩ ⟨rfl, fun d => loopOk_of (fun L e x => h1174_3 S1173.pre S1173.F S157.pre S157.F S173.pre S173.F L e x) (m1174_3 S1173.pre S1173.F S157.pre S157.F S173.pre S173.F) (fun R L e x => s1174_3 S1173.pre S1173.F S157.pre S157.F S173.pre S173.F W1174_3 d R L e x), trivial⟩ I1174 O1174 T1174 _ fun x => r1174 S1173.pre S1173.F S157.pre S157.F S173.pre S173.F W1174_3 x.1 x.2.1
/-- vernier/nat.copied -/
abbrev I1146 : Sig := [(false, .slice (.int .u64))]
abbrev O1146 : Sig := [(true, .slice (.int .u64))]
noncomputable def t1146 (p173 : DenS I173 → Bool) (f173 : DenS I173 → DenS O173) (a0 : Den (.slice (.int .u64))) : Option (DenS O1146) :=
  bif (p173 (a0, ())) then
  (bif ((decide ((0 : Int) ≤ ((f173 (a0, ())).1.length : Int))) && (decide ((((f173 (a0, ())).1.length : Int) * (8 : Int)) ≤ (140737488355328 : Int)))) then
  (some ((((f173 (a0, ())).1.take (List.replicate (Int.toNat ((f173 (a0, ())).1.length : Int)) (0 : Int)).length) ++ ((List.replicate (Int.toNat ((f173 (a0, ())).1.length : Int)) (0 : Int)).drop (f173 (a0, ())).1.length)), ()))
  else none)
  else none
theorem r1146 (p173 : DenS I173 → Bool) (f173 : DenS I173 → DenS O173) (a0 : Den (.slice (.int .u64))) :
    run { P := Go.Proofs.Tryd.prog, sums := [(173, ⟨I173, O173, p173, f173⟩)], loops := [], globs := G1, keep := true } 9 146 Go.Proofs.Tryd.f146 I1146 O1146 (a0, ()) = t1146 p173 f173 a0 := by kernel_rfl
noncomputable def T1146 (x : DenS I1146) : Option (DenS O1146) := t1146 S173.pre S173.F x.1
noncomputable def C1146 : Cfg := { P := Go.Proofs.Tryd.prog, sums := [(173, S173)], loops := [], globs := G1, keep := true }
noncomputable def S1146 : Sum := sumOf I1146 O1146 T1146 (DenS.dflt O1146)
theorem S1146_sound : Sound Go.Proofs.Tryd.prog G1 146 S1146 :=
  fn_sound C1146 9 146 Go.Proofs.Tryd.f146 mixedOk (by kernel_rfl) (by kernel_rfl) (by kernel_rfl) ⟨S173_sound, trivial⟩ trivial I1146 O1146 T1146 _ fun x => r1146 S173.pre S173.F x.1
/-- vernier/nat.less -/
abbrev I174 : Sig := [(false, .slice (.int .u64)), (false, .slice (.int .u64))]
abbrev O174 : Sig := [(false, .slice (.int .u64))]
abbrev P174_3 : Pat := ⟨37, [(9, .one (.v .i64)), (1, .one (.sl (.int .u64))), (5, .one (.v .u64)), (10, .one (.v .i64)), (0, .one (.sl (.int .u64)))], []⟩
abbrev A174_3 : List (Nat × Shape) := []
abbrev X174_3 : List (Nat × Pat) := [(0, ⟨37, [(0, .one (.sl (.int .u64)))], []⟩)]
abbrev Q174_3 : Option Pat := none
noncomputable def h174_3 (p157 : DenS I157 → Bool) (f157 : DenS I157 → DenS O157) (p173 : DenS I173 → Bool) (f173 : DenS I173 → DenS O173) {R : Type} (L : Pat.D P174_3 → Option R) (e : OutT X174_3 Q174_3 → Option R) (x : Pat.D P174_3) : Option R :=
  bif (decide (x.1.2.2.2.1 < x.1.1)) then
  (bif (decide (x.1.2.2.2.1 < (x.1.2.1.length : Int))) then
  (bif ((decide ((0 : Int) ≤ x.1.2.2.2.1)) && (decide (x.1.2.2.2.1 < (x.1.2.1.length : Int)))) then
  (bif ((decide ((0 : Int) ≤ x.1.2.2.2.1)) && (decide (x.1.2.2.2.1 < (x.1.2.2.2.2.1.length : Int)))) then
  (bif (p157 ((x.1.2.2.2.2.1.getD (Int.toNat x.1.2.2.2.1) (0 : Int)), ((x.1.2.1.getD (Int.toNat x.1.2.2.2.1) (0 : Int)), (x.1.2.2.1, ())))) then
  (bif ((decide ((0 : Int) ≤ x.1.2.2.2.1)) && (decide (x.1.2.2.2.1 < (x.1.2.2.2.2.1.length : Int)))) then
              (none)
  else none)
  else none)
  else none)
  else none)
  else bif ((decide ((0 : Int) ≤ x.1.2.2.2.1)) && (decide (x.1.2.2.2.1 < (x.1.2.2.2.2.1.length : Int)))) then
  (bif (p157 ((x.1.2.2.2.2.1.getD (Int.toNat x.1.2.2.2.1) (0 : Int)), ((0 : Int), (x.1.2.2.1, ())))) then
  (bif ((decide ((0 : Int) ≤ x.1.2.2.2.1)) && (decide (x.1.2.2.2.1 < (x.1.2.2.2.2.1.length : Int)))) then
          (none)
  else none)
  else none)
  else none)
  else (e (.inl (x.1.2.2.2.2, ())))
theorem s174_3 (p157 : DenS I157 → Bool) (f157 : DenS I157 → DenS O157) (p173 : DenS I173 → Bool) (f173 : DenS I173 → DenS O173) (w174_3 : Pat.D P174_3 → Option (OutT X174_3 Q174_3)) (d : Nat) (R : Type) (L : Pat.D P174_3 → Option R) (e : OutT X174_3 Q174_3 → Option R) (x : Pat.D P174_3) :
    lStep { P := Go.Proofs.Tryd.prog, sums := [(157, ⟨I157, O157, p157, f157⟩), (173, ⟨I173, O173, p173, f173⟩)], loops := [(174, 3, LoopSpec.of P174_3 A174_3 X174_3 Q174_3 w174_3)], globs := G1 } (d + 2) 174 (bodyOf Go.Proofs.Tryd.f174 3) P174_3 A174_3 X174_3 Q174_3 (R := R) L e x = h174_3 p157 f157 p173 f173 L e x := by kernel_rfl
theorem m174_3 (p157 : DenS I157 → Bool) (f157 : DenS I157 → DenS O157) (p173 : DenS I173 → Bool) (f173 : DenS I173 → DenS O173) : Par fun L e x => h174_3 p157 f157 p173 f173 L e x := by
  intro A B rel L L' e e' h0 hL he x
  unfold h174_3
  repeat' (first | exact h0 | exact hL _ | exact he _ | apply rel_cond | (apply rel_obind h0; intro _) | (apply rel_obind2 <;> intro _))
noncomputable def t174 (p157 : DenS I157 → Bool) (f157 : DenS I157 → DenS O157) (p173 : DenS I173 → Bool) (f173 : DenS I173 → DenS O173) (w174_3 : Pat.D P174_3 → Option (OutT X174_3 Q174_3)) (a0 : Den (.slice (.int .u64))) (a1 : Den (.slice (.int .u64))) : Option (DenS O174) :=
  Vx.obind (w174_3 (((a0.length : Int), (a1, ((0 : Int), ((0 : Int), (a0, ()))))), ())) fun y0 =>
  Vx.obind2 y0 (fun y1 =>
  bif (p173 y1.1) then
  (some (f173 y1.1))
  else none) (fun z1 =>
  none)
theorem r174 (p157 : DenS I157 → Bool) (f157 : DenS I157 → DenS O157) (p173 : DenS I173 → Bool) (f173 : DenS I173 → DenS O173) (w174_3 : Pat.D P174_3 → Option (OutT X174_3 Q174_3)) (a0 : Den (.slice (.int .u64))) (a1 : Den (.slice (.int .u64))) :
    run { P := Go.Proofs.Tryd.prog, sums := [(157, ⟨I157, O157, p157, f157⟩), (173, ⟨I173, O173, p173, f173⟩)], loops := [(174, 3, LoopSpec.of P174_3 A174_3 X174_3 Q174_3 w174_3)], globs := G1 } 9 174 Go.Proofs.Tryd.f174 I174 O174 (a0, a1, ()) = t174 p157 f157 p173 f173 w174_3 a0 a1 := by kernel_rfl
noncomputable def W174_3 : P174_3.D → Option (OutT X174_3 Q174_3) := lfix fun L => h174_3 S157.pre S157.F S173.pre S173.F L some
noncomputable def T174 (x : DenS I174) : Option (DenS O174) := t174 S157.pre S157.F S173.pre S173.F W174_3 x.1 x.2.1
noncomputable def C174 : Cfg := { P := Go.Proofs.Tryd.prog, sums := [(157, S157), (173, S173)], loops := [(174, 3, LoopSpec.of P174_3 A174_3 X174_3 Q174_3 W174_3)], globs := G1 }
noncomputable def S174 : Sum := sumOf I174 O174 T174 (DenS.dflt O174)
theorem S174_sound : Sound Go.Proofs.Tryd.prog G1 174 S174 :=
  fn_sound C174 9 174 Go.Proofs.Tryd.f174 mixedOk (by kernel_rfl) (by kernel_rfl) (by kernel_rfl) ⟨S157_sound, ⟨S173_sound, trivial⟩⟩ ⟨rfl, fun d => loopOk_of (fun L e x => h174_3 S157.pre S157.F S173.pre S173.F L e x) (m174_3 S157.pre S157.F S173.pre S173.F) (fun R L e x => s174_3 S157.pre S157.F S173.pre S173.F W174_3 d R L e x), trivial⟩ I174 O174 T174 _ fun x => r174 S157.pre S157.F S173.pre S173.F W174_3 x.1 x.2.1
/-- vernier/nat.Sub -/
abbrev I145 : Sig := [(false, .slice (.int .u64)), (false, .slice (.int .u64))]
abbrev O145 : Sig := [(false, .slice (.int .u64)), (false, .int .i64)]
noncomputable def t145 (p1174 : DenS I1174 → Bool) (f1174 : DenS I1174 → DenS O1174) (p1146 : DenS I1146 → Bool) (f1146 : DenS I1146 → DenS O1146) (p144 : DenS I144 → Bool) (f144 : DenS I144 → DenS O144) (p146 : DenS I146 → Bool) (f146 : DenS I146 → DenS O146) (p173 : DenS I173 → Bool) (f173 : DenS I173 → DenS O173) (p174 : DenS I174 → Bool) (f174 : DenS I174 → DenS O174) (a0 : Den (.slice (.int .u64))) (a1 : Den (.slice (.int .u64))) : Option (DenS O145) :=
  bif (p144 (a0, (a1, ()))) then
  (bif (decide ((f144 (a0, (a1, ()))).1 < (0 : Int))) then
  (some ([], ((20 : Int), ())))
  else bif (p1146 (a0, ())) then
  (bif (p173 (a1, ())) then
  (bif (p1174 ((f1146 (a0, ())).1, (f173 (a1, ())))) then
  (some ((f1174 ((f1146 (a0, ())).1, (f173 (a1, ())))).1, ((0 : Int), ())))
  else none)
  else none)
  else none)
  else none
theorem r145 (p1174 : DenS I1174 → Bool) (f1174 : DenS I1174 → DenS O1174) (p1146 : DenS I1146 → Bool) (f1146 : DenS I1146 → DenS O1146) (p144 : DenS I144 → Bool) (f144 : DenS I144 → DenS O144) (p146 : DenS I146 → Bool) (f146 : DenS I146 → DenS O146) (p173 : DenS I173 → Bool) (f173 : DenS I173 → DenS O173) (p174 : DenS I174 → Bool) (f174 : DenS I174 → DenS O174) (a0 : Den (.slice (.int .u64))) (a1 : Den (.slice (.int .u64))) :
    run { P := Go.Proofs.Tryd.prog, sums := [(174, ⟨I1174, O1174, p1174, f1174⟩), (146, ⟨I1146, O1146, p1146, f1146⟩), (144, ⟨I144, O144, p144, f144⟩), (146, ⟨I146, O146, p146, f146⟩), (173, ⟨I173, O173, p173, f173⟩), (174, ⟨I174, O174, p174, f174⟩)], loops := [], globs := G1 } 9 145 Go.Proofs.Tryd.f145 I145 O145 (a0, a1, ()) = t145 p1174 f1174 p1146 f1146 p144 f144 p146 f146 p173 f173 p174 f174 a0 a1 := by kernel_rfl
noncomputable def T145 (x : DenS I145) : Option (DenS O145) := t145 S1174.pre S1174.F S1146.pre S1146.F S144.pre S144.F S146.pre S146.F S173.pre S173.F S174.pre S174.F x.1 x.2.1
noncomputable def C145 : Cfg := { P := Go.Proofs.Tryd.prog, sums := [(174, S1174), (146, S1146), (144, S144), (146, S146), (173, S173), (174, S174)], loops := [], globs := G1 }
noncomputable def S145 : Sum := sumOf I145 O145 T145 (DenS.dflt O145)
theorem S145_sound : Sound Go.Proofs.Tryd.prog G1 145 S145 :=
  fn_sound C145 9 145 Go.Proofs.Tryd.f145 mixedOk (by kernel_rfl) (by kernel_rfl) (by kernel_rfl) ⟨S1174_sound, ⟨S1146_sound, ⟨S144_sound, ⟨S146_sound, ⟨S173_sound, ⟨S174_sound, trivial⟩⟩⟩⟩⟩⟩ trivial I145 O145 T145 _ fun x => r145 S1174.pre S1174.F S1146.pre S1146.F S144.pre S144.F S146.pre S146.F S173.pre S173.F S174.pre S174.F x.1 x.2.1
/-- vernier/dyad.sum -/
abbrev I101 : Sig := [(true, .pair (.bool) (.pair (.slice (.int .u64)) (.pair (.int .i64) (.unit)))), (true, .pair (.bool) (.pair (.slice (.int .u64)) (.pair (.int .i64) (.unit))))]
abbrev O101 : Sig := [(true, .pair (.bool) (.pair (.slice (.int .u64)) (.pair (.int .i64) (.unit))))]
noncomputable def t101 (p142 : DenS I142 → Bool) (f142 : DenS I142 → DenS O142) (p143 : DenS I143 → Bool) (f143 : DenS I143 → DenS O143) (p144 : DenS I144 → Bool) (f144 : DenS I144 → DenS O144) (p145 : DenS I145 → Bool) (f145 : DenS I145 → DenS O145) (p100 : DenS I100 → Bool) (f100 : DenS I100 → DenS O100) (a0 : Den (.pair (.bool) (.pair (.slice (.int .u64)) (.pair (.int .i64) (.unit))))) (a1 : Den (.pair (.bool) (.pair (.slice (.int .u64)) (.pair (.int .i64) (.unit))))) : Option (DenS O101) :=
  bif ((a0.2.1.length : Int) == (0 : Int)) then
  (some ((a1.1, a1.2), ()))
  else bif ((a1.2.1.length : Int) == (0 : Int)) then
  (some ((a0.1, a0.2), ()))
  else bif (p142 ((a0.1, a0.2), ((a1.1, a1.2), ()))) then
  (bif (a0.1 == a1.1) then
  (bif (p143 ((f142 ((a0.1, a0.2), ((a1.1, a1.2), ()))).1, ((f142 ((a0.1, a0.2), ((a1.1, a1.2), ()))).2.1, ()))) then
  (bif (p100 ((a0.1, ((f143 ((f142 ((a0.1, a0.2), ((a1.1, a1.2), ()))).1, ((f142 ((a0.1, a0.2), ((a1.1, a1.2), ()))).2.1, ()))).1, (f142 ((a0.1, a0.2), ((a1.1, a1.2), ()))).2.2)), ())) then
  (some (f100 ((a0.1, ((f143 ((f142 ((a0.1, a0.2), ((a1.1, a1.2), ()))).1, ((f142 ((a0.1, a0.2), ((a1.1, a1.2), ()))).2.1, ()))).1, (f142 ((a0.1, a0.2), ((a1.1, a1.2), ()))).2.2)), ())))
  else none)
  else none)
  else bif (p144 ((f142 ((a0.1, a0.2), ((a1.1, a1.2), ()))).1, ((f142 ((a0.1, a0.2), ((a1.1, a1.2), ()))).2.1, ()))) then
  (bif (decide ((f144 ((f142 ((a0.1, a0.2), ((a1.1, a1.2), ()))).1, ((f142 ((a0.1, a0.2), ((a1.1, a1.2), ()))).2.1, ()))).1 < (0 : Int))) then
  (bif (p145 ((f142 ((a0.1, a0.2), ((a1.1, a1.2), ()))).2.1, ((f142 ((a0.1, a0.2), ((a1.1, a1.2), ()))).1, ()))) then
  (bif (p100 ((a1.1, ((f145 ((f142 ((a0.1, a0.2), ((a1.1, a1.2), ()))).2.1, ((f142 ((a0.1, a0.2), ((a1.1, a1.2), ()))).1, ()))).1, (f142 ((a0.1, a0.2), ((a1.1, a1.2), ()))).2.2)), ())) then
  (some (f100 ((a1.1, ((f145 ((f142 ((a0.1, a0.2), ((a1.1, a1.2), ()))).2.1, ((f142 ((a0.1, a0.2), ((a1.1, a1.2), ()))).1, ()))).1, (f142 ((a0.1, a0.2), ((a1.1, a1.2), ()))).2.2)), ())))
  else none)
  else none)
  else bif (p145 ((f142 ((a0.1, a0.2), ((a1.1, a1.2), ()))).1, ((f142 ((a0.1, a0.2), ((a1.1, a1.2), ()))).2.1, ()))) then
  (bif (p100 ((a0.1, ((f145 ((f142 ((a0.1, a0.2), ((a1.1, a1.2), ()))).1, ((f142 ((a0.1, a0.2), ((a1.1, a1.2), ()))).2.1, ()))).1, (f142 ((a0.1, a0.2), ((a1.1, a1.2), ()))).2.2)), ())) then
  (some (f100 ((a0.1, ((f145 ((f142 ((a0.1, a0.2), ((a1.1, a1.2), ()))).1, ((f142 ((a0.1, a0.2), ((a1.1, a1.2), ()))).2.1, ()))).1, (f142 ((a0.1, a0.2), ((a1.1, a1.2), ()))).2.2)), ())))
  else none)
  else none)
  else none)
  else none
theorem r101 (p142 : DenS I142 → Bool) (f142 : DenS I142 → DenS O142) (p143 : DenS I143 → Bool) (f143 : DenS I143 → DenS O143) (p144 : DenS I144 → Bool) (f144 : DenS I144 → DenS O144) (p145 : DenS I145 → Bool) (f145 : DenS I145 → DenS O145) (p100 : DenS I100 → Bool) (f100 : DenS I100 → DenS O100) (a0 : Den (.pair (.bool) (.pair (.slice (.int .u64)) (.pair (.int .i64) (.unit))))) (a1 : Den (.pair (.bool) (.pair (.slice (.int .u64)) (.pair (.int .i64) (.unit))))) :
    run { P := Go.Proofs.Tryd.prog, sums := [(142, ⟨I142, O142, p142, f142⟩), (143, ⟨I143, O143, p143, f143⟩), (144, ⟨I144, O144, p144, f144⟩), (145, ⟨I145, O145, p145, f145⟩), (100, ⟨I100, O100, p100, f100⟩)], loops := [], globs := G1 } 9 101 Go.Proofs.Tryd.f101 I101 O101 (a0, a1, ()) = t101 p142 f142 p143 f143 p144 f144 p145 f145 p100 f100 a0 a1 := by kernel_rfl
noncomputable def T101 (x : DenS I101) : Option (DenS O101) := t101 S142.pre S142.F S143.pre S143.F S144.pre S144.F S145.pre S145.F S100.pre S100.F x.1 x.2.1
noncomputable def C101 : Cfg := { P := Go.Proofs.Tryd.prog, sums := [(142, S142), (143, S143), (144, S144), (145, S145), (100, S100)], loops := [], globs := G1 }
noncomputable def S101 : Sum := sumOf I101 O101 T101 (DenS.dflt O101)
theorem S101_sound : Sound Go.Proofs.Tryd.prog G1 101 S101 :=
  fn_sound C101 9 101 Go.Proofs.Tryd.f101 mixedOk (by kernel_rfl) (by kernel_rfl) (by kernel_rfl) ⟨S142_sound, ⟨S143_sound, ⟨S144_sound, ⟨S145_sound, ⟨S100_sound, trivial⟩⟩⟩⟩⟩ trivial I101 O101 T101 _ fun x => r101 S142.pre S142.F S143.pre S143.F S144.pre S144.F S145.pre S145.F S100.pre S100.F x.1 x.2.1
/-- vernier/dyad.answer -/
abbrev I104 : Sig := [(true, .pair (.bool) (.pair (.slice (.int .u64)) (.pair (.int .i64) (.unit))))]
abbrev O104 : Sig := [(true, .pair (.bool) (.pair (.slice (.int .u64)) (.pair (.int .i64) (.unit)))), (false, .int .i64)]
noncomputable def t104 (p100 : DenS I100 → Bool) (f100 : DenS I100 → DenS O100) (a0 : Den (.pair (.bool) (.pair (.slice (.int .u64)) (.pair (.int .i64) (.unit))))) : Option (DenS O104) :=
  bif (p100 ((a0.1, a0.2), ())) then
  (bif (decide (((f100 ((a0.1, a0.2), ())).1.2.1.length : Int) > (1024 : Int))) then
  (some ((false, ([], ((0 : Int), ()))), ((5 : Int), ())))
  else bif ((decide ((f100 ((a0.1, a0.2), ())).1.2.2.1 < (-(40000 : Int)))) || (decide ((f100 ((a0.1, a0.2), ())).1.2.2.1 > (40000 : Int)))) then
  (some ((false, ([], ((0 : Int), ()))), ((30 : Int), ())))
  else some ((f100 ((a0.1, a0.2), ())).1, ((0 : Int), ())))
  else none
theorem r104 (p100 : DenS I100 → Bool) (f100 : DenS I100 → DenS O100) (a0 : Den (.pair (.bool) (.pair (.slice (.int .u64)) (.pair (.int .i64) (.unit))))) :
    run { P := Go.Proofs.Tryd.prog, sums := [(100, ⟨I100, O100, p100, f100⟩)], loops := [], globs := G1 } 9 104 Go.Proofs.Tryd.f104 I104 O104 (a0, ()) = t104 p100 f100 a0 := by kernel_rfl
noncomputable def T104 (x : DenS I104) : Option (DenS O104) := t104 S100.pre S100.F x.1
noncomputable def C104 : Cfg := { P := Go.Proofs.Tryd.prog, sums := [(100, S100)], loops := [], globs := G1 }
noncomputable def S104 : Sum := sumOf I104 O104 T104 (DenS.dflt O104)
theorem S104_sound : Sound Go.Proofs.Tryd.prog G1 104 S104 :=
  fn_sound C104 9 104 Go.Proofs.Tryd.f104 mixedOk (by kernel_rfl) (by kernel_rfl) (by kernel_rfl) ⟨S100_sound, trivial⟩ trivial I104 O104 T104 _ fun x => r104 S100.pre S100.F x.1
/-- vernier/dyad.Add -/
abbrev I49 : Sig := [(true, .pair (.bool) (.pair (.slice (.int .u64)) (.pair (.int .i64) (.unit)))), (true, .pair (.bool) (.pair (.slice (.int .u64)) (.pair (.int .i64) (.unit))))]
abbrev O49 : Sig := [(true, .pair (.bool) (.pair (.slice (.int .u64)) (.pair (.int .i64) (.unit)))), (false, .int .i64)]
noncomputable def t49 (p99 : DenS I99 → Bool) (f99 : DenS I99 → DenS O99) (p100 : DenS I100 → Bool) (f100 : DenS I100 → DenS O100) (p101 : DenS I101 → Bool) (f101 : DenS I101 → DenS O101) (p104 : DenS I104 → Bool) (f104 : DenS I104 → DenS O104) (a0 : Den (.pair (.bool) (.pair (.slice (.int .u64)) (.pair (.int .i64) (.unit))))) (a1 : Den (.pair (.bool) (.pair (.slice (.int .u64)) (.pair (.int .i64) (.unit))))) : Option (DenS O49) :=
  bif (p99 ((a0.1, a0.2), ((a1.1, a1.2), ()))) then
  (bif ((f99 ((a0.1, a0.2), ((a1.1, a1.2), ()))).1 != (0 : Int)) then
  (some ((false, ([], ((0 : Int), ()))), (f99 ((a0.1, a0.2), ((a1.1, a1.2), ())))))
  else bif (p100 ((a0.1, a0.2), ())) then
  (bif (p100 ((a1.1, a1.2), ())) then
  (bif (p101 ((f100 ((a0.1, a0.2), ())).1, (f100 ((a1.1, a1.2), ())))) then
  (bif (p104 (f101 ((f100 ((a0.1, a0.2), ())).1, (f100 ((a1.1, a1.2), ()))))) then
  (some (f104 (f101 ((f100 ((a0.1, a0.2), ())).1, (f100 ((a1.1, a1.2), ()))))))
  else none)
  else none)
  else none)
  else none)
  else none
theorem r49 (p99 : DenS I99 → Bool) (f99 : DenS I99 → DenS O99) (p100 : DenS I100 → Bool) (f100 : DenS I100 → DenS O100) (p101 : DenS I101 → Bool) (f101 : DenS I101 → DenS O101) (p104 : DenS I104 → Bool) (f104 : DenS I104 → DenS O104) (a0 : Den (.pair (.bool) (.pair (.slice (.int .u64)) (.pair (.int .i64) (.unit))))) (a1 : Den (.pair (.bool) (.pair (.slice (.int .u64)) (.pair (.int .i64) (.unit))))) :
    run { P := Go.Proofs.Tryd.prog, sums := [(99, ⟨I99, O99, p99, f99⟩), (100, ⟨I100, O100, p100, f100⟩), (101, ⟨I101, O101, p101, f101⟩), (104, ⟨I104, O104, p104, f104⟩)], loops := [], globs := G1 } 9 49 Go.Proofs.Tryd.f49 I49 O49 (a0, a1, ()) = t49 p99 f99 p100 f100 p101 f101 p104 f104 a0 a1 := by kernel_rfl
noncomputable def T49 (x : DenS I49) : Option (DenS O49) := t49 S99.pre S99.F S100.pre S100.F S101.pre S101.F S104.pre S104.F x.1 x.2.1
noncomputable def C49 : Cfg := { P := Go.Proofs.Tryd.prog, sums := [(99, S99), (100, S100), (101, S101), (104, S104)], loops := [], globs := G1 }
noncomputable def S49 : Sum := sumOf I49 O49 T49 (DenS.dflt O49)
theorem S49_sound : Sound Go.Proofs.Tryd.prog G1 49 S49 :=
  fn_sound C49 9 49 Go.Proofs.Tryd.f49 mixedOk (by kernel_rfl) (by kernel_rfl) (by kernel_rfl) ⟨S99_sound, ⟨S100_sound, ⟨S101_sound, ⟨S104_sound, trivial⟩⟩⟩⟩ trivial I49 O49 T49 _ fun x => r49 S99.pre S99.F S100.pre S100.F S101.pre S101.F S104.pre S104.F x.1 x.2.1
/-- vernier/dyad.Sign -/
abbrev I47 : Sig := [(true, .pair (.bool) (.pair (.slice (.int .u64)) (.pair (.int .i64) (.unit))))]
abbrev O47 : Sig := [(false, .int .i64)]
noncomputable def t47 (p102 : DenS I102 → Bool) (f102 : DenS I102 → DenS O102) (a0 : Den (.pair (.bool) (.pair (.slice (.int .u64)) (.pair (.int .i64) (.unit))))) : Option (DenS O47) :=
  bif (p102 (a0.2.1, ())) then
  (bif (((f102 (a0.2.1, ())).1.length : Int) == (0 : Int)) then
  (some ((0 : Int), ()))
  else bif a0.1 then
  (some ((-(1 : Int)), ()))
  else some ((1 : Int), ()))
  else none
theorem r47 (p102 : DenS I102 → Bool) (f102 : DenS I102 → DenS O102) (a0 : Den (.pair (.bool) (.pair (.slice (.int .u64)) (.pair (.int .i64) (.unit))))) :
    run { P := Go.Proofs.Tryd.prog, sums := [(102, ⟨I102, O102, p102, f102⟩)], loops := [], globs := G1 } 9 47 Go.Proofs.Tryd.f47 I47 O47 (a0, ()) = t47 p102 f102 a0 := by kernel_rfl
noncomputable def T47 (x : DenS I47) : Option (DenS O47) := t47 S102.pre S102.F x.1
noncomputable def C47 : Cfg := { P := Go.Proofs.Tryd.prog, sums := [(102, S102)], loops := [], globs := G1 }
noncomputable def S47 : Sum := sumOf I47 O47 T47 (DenS.dflt O47)
theorem S47_sound : Sound Go.Proofs.Tryd.prog G1 47 S47 :=
  fn_sound C47 9 47 Go.Proofs.Tryd.f47 mixedOk (by kernel_rfl) (by kernel_rfl) (by kernel_rfl) ⟨S102_sound, trivial⟩ trivial I47 O47 T47 _ fun x => r47 S102.pre S102.F x.1
/-- vernier/dyad.Canon -/
abbrev I106 : Sig := [(true, .pair (.bool) (.pair (.slice (.int .u64)) (.pair (.int .i64) (.unit))))]
abbrev O106 : Sig := [(true, .pair (.bool) (.pair (.slice (.int .u64)) (.pair (.int .i64) (.unit)))), (false, .int .i64)]
noncomputable def t106 (p103 : DenS I103 → Bool) (f103 : DenS I103 → DenS O103) (p104 : DenS I104 → Bool) (f104 : DenS I104 → DenS O104) (a0 : Den (.pair (.bool) (.pair (.slice (.int .u64)) (.pair (.int .i64) (.unit))))) : Option (DenS O106) :=
  bif (p103 ((a0.1, a0.2), ())) then
  (bif ((f103 ((a0.1, a0.2), ())).1 != (0 : Int)) then
  (some ((false, ([], ((0 : Int), ()))), (f103 ((a0.1, a0.2), ()))))
  else bif (p104 ((a0.1, a0.2), ())) then
  (some (f104 ((a0.1, a0.2), ())))
  else none)
  else none
theorem r106 (p103 : DenS I103 → Bool) (f103 : DenS I103 → DenS O103) (p104 : DenS I104 → Bool) (f104 : DenS I104 → DenS O104) (a0 : Den (.pair (.bool) (.pair (.slice (.int .u64)) (.pair (.int .i64) (.unit))))) :
    run { P := Go.Proofs.Tryd.prog, sums := [(103, ⟨I103, O103, p103, f103⟩), (104, ⟨I104, O104, p104, f104⟩)], loops := [], globs := G1 } 9 106 Go.Proofs.Tryd.f106 I106 O106 (a0, ()) = t106 p103 f103 p104 f104 a0 := by kernel_rfl
noncomputable def T106 (x : DenS I106) : Option (DenS O106) := t106 S103.pre S103.F S104.pre S104.F x.1
noncomputable def C106 : Cfg := { P := Go.Proofs.Tryd.prog, sums := [(103, S103), (104, S104)], loops := [], globs := G1 }
noncomputable def S106 : Sum := sumOf I106 O106 T106 (DenS.dflt O106)
theorem S106_sound : Sound Go.Proofs.Tryd.prog G1 106 S106 :=
  fn_sound C106 9 106 Go.Proofs.Tryd.f106 mixedOk (by kernel_rfl) (by kernel_rfl) (by kernel_rfl) ⟨S103_sound, ⟨S104_sound, trivial⟩⟩ trivial I106 O106 T106 _ fun x => r106 S103.pre S103.F S104.pre S104.F x.1
/-- vernier/round.Exact -/
abbrev I51 : Sig := [(false, .int .i64), (false, .int .i64), (true, .pair (.bool) (.pair (.slice (.int .u64)) (.pair (.int .i64) (.unit))))]
abbrev O51 : Sig := [(false, .int .u64), (false, .int .i64), (false, .int .i64)]
noncomputable def t51 (p105 : DenS I105 → Bool) (f105 : DenS I105 → DenS O105) (p106 : DenS I106 → Bool) (f106 : DenS I106 → DenS O106) (p107 : DenS I107 → Bool) (f107 : DenS I107 → DenS O107) (a0 : Den (.int .i64)) (a1 : Den (.int .i64)) (a2 : Den (.pair (.bool) (.pair (.slice (.int .u64)) (.pair (.int .i64) (.unit))))) : Option (DenS O51) :=
  bif (p105 (a0, (a1, ()))) then
  (bif ((f105 (a0, (a1, ()))).2.1 != (0 : Int)) then
  (some ((0 : Int), ((0 : Int), (f105 (a0, (a1, ()))).2)))
  else bif (p106 ((a2.1, a2.2), ())) then
  (bif ((f106 ((a2.1, a2.2), ())).2.1 != (0 : Int)) then
  (some ((0 : Int), ((0 : Int), (f106 ((a2.1, a2.2), ())).2)))
  else bif (((f106 ((a2.1, a2.2), ())).1.2.1.length : Int) == (0 : Int)) then
  (some ((0 : Int), ((0 : Int), ((0 : Int), ()))))
  else bif (p107 (((f106 ((a2.1, a2.2), ())).1.1, ((f106 ((a2.1, a2.2), ())).1.2.1, ((f106 ((a2.1, a2.2), ())).1.2.2.1, (false, ())))), (a0, ((f105 (a0, (a1, ()))).1, (a1, ()))))) then
  (some ((f107 (((f106 ((a2.1, a2.2), ())).1.1, ((f106 ((a2.1, a2.2), ())).1.2.1, ((f106 ((a2.1, a2.2), ())).1.2.2.1, (false, ())))), (a0, ((f105 (a0, (a1, ()))).1, (a1, ()))))).1, ((f107 (((f106 ((a2.1, a2.2), ())).1.1, ((f106 ((a2.1, a2.2), ())).1.2.1, ((f106 ((a2.1, a2.2), ())).1.2.2.1, (false, ())))), (a0, ((f105 (a0, (a1, ()))).1, (a1, ()))))).2.1, ((0 : Int), ()))))
  else none)
  else none)
  else none
theorem r51 (p105 : DenS I105 → Bool) (f105 : DenS I105 → DenS O105) (p106 : DenS I106 → Bool) (f106 : DenS I106 → DenS O106) (p107 : DenS I107 → Bool) (f107 : DenS I107 → DenS O107) (a0 : Den (.int .i64)) (a1 : Den (.int .i64)) (a2 : Den (.pair (.bool) (.pair (.slice (.int .u64)) (.pair (.int .i64) (.unit))))) :
    run { P := Go.Proofs.Tryd.prog, sums := [(105, ⟨I105, O105, p105, f105⟩), (106, ⟨I106, O106, p106, f106⟩), (107, ⟨I107, O107, p107, f107⟩)], loops := [], globs := G1 } 9 51 Go.Proofs.Tryd.f51 I51 O51 (a0, a1, a2, ()) = t51 p105 f105 p106 f106 p107 f107 a0 a1 a2 := by kernel_rfl
noncomputable def T51 (x : DenS I51) : Option (DenS O51) := t51 S105.pre S105.F S106.pre S106.F S107.pre S107.F x.1 x.2.1 x.2.2.1
noncomputable def C51 : Cfg := { P := Go.Proofs.Tryd.prog, sums := [(105, S105), (106, S106), (107, S107)], loops := [], globs := G1 }
noncomputable def S51 : Sum := sumOf I51 O51 T51 (DenS.dflt O51)
theorem S51_sound : Sound Go.Proofs.Tryd.prog G1 51 S51 :=
  fn_sound C51 9 51 Go.Proofs.Tryd.f51 mixedOk (by kernel_rfl) (by kernel_rfl) (by kernel_rfl) ⟨S105_sound, ⟨S106_sound, ⟨S107_sound, trivial⟩⟩⟩ trivial I51 O51 T51 _ fun x => r51 S105.pre S105.F S106.pre S106.F S107.pre S107.F x.1 x.2.1 x.2.2.1
/-- vernier/dyad.Sub -/
abbrev I44 : Sig := [(true, .pair (.bool) (.pair (.slice (.int .u64)) (.pair (.int .i64) (.unit)))), (true, .pair (.bool) (.pair (.slice (.int .u64)) (.pair (.int .i64) (.unit))))]
abbrev O44 : Sig := [(true, .pair (.bool) (.pair (.slice (.int .u64)) (.pair (.int .i64) (.unit)))), (false, .int .i64)]
noncomputable def t44 (p49 : DenS I49 → Bool) (f49 : DenS I49 → DenS O49) (a0 : Den (.pair (.bool) (.pair (.slice (.int .u64)) (.pair (.int .i64) (.unit))))) (a1 : Den (.pair (.bool) (.pair (.slice (.int .u64)) (.pair (.int .i64) (.unit))))) : Option (DenS O44) :=
  bif (p49 ((a0.1, a0.2), (((!a1.1), a1.2), ()))) then
  (some (f49 ((a0.1, a0.2), (((!a1.1), a1.2), ()))))
  else none
theorem r44 (p49 : DenS I49 → Bool) (f49 : DenS I49 → DenS O49) (a0 : Den (.pair (.bool) (.pair (.slice (.int .u64)) (.pair (.int .i64) (.unit))))) (a1 : Den (.pair (.bool) (.pair (.slice (.int .u64)) (.pair (.int .i64) (.unit))))) :
    run { P := Go.Proofs.Tryd.prog, sums := [(49, ⟨I49, O49, p49, f49⟩)], loops := [], globs := G1 } 9 44 Go.Proofs.Tryd.f44 I44 O44 (a0, a1, ()) = t44 p49 f49 a0 a1 := by kernel_rfl
noncomputable def T44 (x : DenS I44) : Option (DenS O44) := t44 S49.pre S49.F x.1 x.2.1
noncomputable def C44 : Cfg := { P := Go.Proofs.Tryd.prog, sums := [(49, S49)], loops := [], globs := G1 }
noncomputable def S44 : Sum := sumOf I44 O44 T44 (DenS.dflt O44)
theorem S44_sound : Sound Go.Proofs.Tryd.prog G1 44 S44 :=
  fn_sound C44 9 44 Go.Proofs.Tryd.f44 mixedOk (by kernel_rfl) (by kernel_rfl) (by kernel_rfl) ⟨S49_sound, trivial⟩ trivial I44 O44 T44 _ fun x => r44 S49.pre S49.F x.1 x.2.1
/-- vernier/dyad.Cmp -/
abbrev I46 : Sig := [(true, .pair (.bool) (.pair (.slice (.int .u64)) (.pair (.int .i64) (.unit)))), (true, .pair (.bool) (.pair (.slice (.int .u64)) (.pair (.int .i64) (.unit))))]
abbrev O46 : Sig := [(false, .int .i64), (false, .int .i64)]
noncomputable def t46 (p99 : DenS I99 → Bool) (f99 : DenS I99 → DenS O99) (p100 : DenS I100 → Bool) (f100 : DenS I100 → DenS O100) (p101 : DenS I101 → Bool) (f101 : DenS I101 → DenS O101) (p47 : DenS I47 → Bool) (f47 : DenS I47 → DenS O47) (a0 : Den (.pair (.bool) (.pair (.slice (.int .u64)) (.pair (.int .i64) (.unit))))) (a1 : Den (.pair (.bool) (.pair (.slice (.int .u64)) (.pair (.int .i64) (.unit))))) : Option (DenS O46) :=
  bif (p99 ((a0.1, a0.2), ((a1.1, a1.2), ()))) then
  (bif ((f99 ((a0.1, a0.2), ((a1.1, a1.2), ()))).1 != (0 : Int)) then
  (some ((0 : Int), (f99 ((a0.1, a0.2), ((a1.1, a1.2), ())))))
  else bif (p100 ((a1.1, a1.2), ())) then
  (bif (p100 ((a0.1, a0.2), ())) then
  (bif (p101 ((f100 ((a0.1, a0.2), ())).1, (((!(f100 ((a1.1, a1.2), ())).1.1), (f100 ((a1.1, a1.2), ())).1.2), ()))) then
  (bif (p47 (f101 ((f100 ((a0.1, a0.2), ())).1, (((!(f100 ((a1.1, a1.2), ())).1.1), (f100 ((a1.1, a1.2), ())).1.2), ())))) then
  (some ((f47 (f101 ((f100 ((a0.1, a0.2), ())).1, (((!(f100 ((a1.1, a1.2), ())).1.1), (f100 ((a1.1, a1.2), ())).1.2), ())))).1, ((0 : Int), ())))
  else none)
  else none)
  else none)
  else none)
  else none
theorem r46 (p99 : DenS I99 → Bool) (f99 : DenS I99 → DenS O99) (p100 : DenS I100 → Bool) (f100 : DenS I100 → DenS O100) (p101 : DenS I101 → Bool) (f101 : DenS I101 → DenS O101) (p47 : DenS I47 → Bool) (f47 : DenS I47 → DenS O47) (a0 : Den (.pair (.bool) (.pair (.slice (.int .u64)) (.pair (.int .i64) (.unit))))) (a1 : Den (.pair (.bool) (.pair (.slice (.int .u64)) (.pair (.int .i64) (.unit))))) :
    run { P := Go.Proofs.Tryd.prog, sums := [(99, ⟨I99, O99, p99, f99⟩), (100, ⟨I100, O100, p100, f100⟩), (101, ⟨I101, O101, p101, f101⟩), (47, ⟨I47, O47, p47, f47⟩)], loops := [], globs := G1 } 9 46 Go.Proofs.Tryd.f46 I46 O46 (a0, a1, ()) = t46 p99 f99 p100 f100 p101 f101 p47 f47 a0 a1 := by kernel_rfl
noncomputable def T46 (x : DenS I46) : Option (DenS O46) := t46 S99.pre S99.F S100.pre S100.F S101.pre S101.F S47.pre S47.F x.1 x.2.1
noncomputable def C46 : Cfg := { P := Go.Proofs.Tryd.prog, sums := [(99, S99), (100, S100), (101, S101), (47, S47)], loops := [], globs := G1 }
noncomputable def S46 : Sum := sumOf I46 O46 T46 (DenS.dflt O46)
theorem S46_sound : Sound Go.Proofs.Tryd.prog G1 46 S46 :=
  fn_sound C46 9 46 Go.Proofs.Tryd.f46 mixedOk (by kernel_rfl) (by kernel_rfl) (by kernel_rfl) ⟨S99_sound, ⟨S100_sound, ⟨S101_sound, ⟨S47_sound, trivial⟩⟩⟩⟩ trivial I46 O46 T46 _ fun x => r46 S99.pre S99.F S100.pre S100.F S101.pre S101.F S47.pre S47.F x.1 x.2.1
end Vx
namespace Vx
open Go Go.Proofs
/-- vernier/order.Ulp -/
abbrev I45 : Sig := [(false, .int .i64), (false, .int .u64)]
abbrev O45 : Sig := [(false, .int .u64), (false, .int .i64), (false, .int .i64)]
noncomputable def t45 (p82 : DenS I82 → Bool) (f82 : DenS I82 → DenS O82) (p53 : DenS I53 → Bool) (f53 : DenS I53 → DenS O53) (p54 : DenS I54 → Bool) (f54 : DenS I54 → DenS O54) (p70 : DenS I70 → Bool) (f70 : DenS I70 → DenS O70) (p97 : DenS I97 → Bool) (f97 : DenS I97 → DenS O97) (p69 : DenS I69 → Bool) (f69 : DenS I69 → DenS O69) (p98 : DenS I98 → Bool) (f98 : DenS I98 → DenS O98) (p51 : DenS I51 → Bool) (f51 : DenS I51 → DenS O51) (a0 : Den (.int .i64)) (a1 : Den (.int .u64)) : Option (DenS O45) :=
  bif (p82 (a0, (a1, ()))) then
  (bif ((f82 (a0, (a1, ()))).2.1 != (0 : Int)) then
  (some ((0 : Int), ((0 : Int), (f82 (a0, (a1, ()))).2)))
  else bif (p53 ((f82 (a0, (a1, ()))).1, ())) then
  (bif (f53 ((f82 (a0, (a1, ()))).1, ())).1 then
  (bif (p54 ((f82 (a0, (a1, ()))).1, ((f82 (a0, (a1, ()))).1, ()))) then
  (bif (p70 (a0, ())) then
  (some ((f70 (a0, ())).1, ((f54 ((f82 (a0, (a1, ()))).1, ((f82 (a0, (a1, ()))).1, ()))).1, (f70 (a0, ())).2)))
  else none)
  else none)
  else bif (((f82 (a0, (a1, ()))).1.1 == (2 : Int)) || ((f82 (a0, (a1, ()))).1.1 == (9 : Int))) then
  (bif (p97 (a0, (false, ()))) then
  (some ((f97 (a0, (false, ()))).1, ((0 : Int), (f97 (a0, (false, ()))).2)))
  else none)
  else bif (p69 (a0, ())) then
  (bif (p98 (a0, (a1, ()))) then
  (bif (p51 (a0, ((0 : Int), ((false, (((1 : Int) :: []), ((Go.IntKind.wrap Go.IntKind.i64 ((Go.IntKind.wrap Go.IntKind.i64 ((Go.IntKind.wrap Go.IntKind.i64 ((Go.IntKind.wrap Go.IntKind.i64 ((if ((1 : Int) > (Go.IntKind.wrap Go.IntKind.i64 (f98 (a0, (a1, ()))).2.1)) then (1 : Int) else (Go.IntKind.wrap Go.IntKind.i64 (f98 (a0, (a1, ()))).2.1)) - (1 : Int))) + (f69 (a0, ())).1.2.2.1)) - (f69 (a0, ())).1.2.1)) + (1 : Int))), ()))), ())))) then
  (some (f51 (a0, ((0 : Int), ((false, (((1 : Int) :: []), ((Go.IntKind.wrap Go.IntKind.i64 ((Go.IntKind.wrap Go.IntKind.i64 ((Go.IntKind.wrap Go.IntKind.i64 ((Go.IntKind.wrap Go.IntKind.i64 ((if ((1 : Int) > (Go.IntKind.wrap Go.IntKind.i64 (f98 (a0, (a1, ()))).2.1)) then (1 : Int) else (Go.IntKind.wrap Go.IntKind.i64 (f98 (a0, (a1, ()))).2.1)) - (1 : Int))) + (f69 (a0, ())).1.2.2.1)) - (f69 (a0, ())).1.2.1)) + (1 : Int))), ()))), ())))))
  else none)
  else none)
  else none)
  else none)
  else none
theorem r45 (p82 : DenS I82 → Bool) (f82 : DenS I82 → DenS O82) (p53 : DenS I53 → Bool) (f53 : DenS I53 → DenS O53) (p54 : DenS I54 → Bool) (f54 : DenS I54 → DenS O54) (p70 : DenS I70 → Bool) (f70 : DenS I70 → DenS O70) (p97 : DenS I97 → Bool) (f97 : DenS I97 → DenS O97) (p69 : DenS I69 → Bool) (f69 : DenS I69 → DenS O69) (p98 : DenS I98 → Bool) (f98 : DenS I98 → DenS O98) (p51 : DenS I51 → Bool) (f51 : DenS I51 → DenS O51) (a0 : Den (.int .i64)) (a1 : Den (.int .u64)) :
    run { P := Go.Proofs.Tryd.prog, sums := [(82, ⟨I82, O82, p82, f82⟩), (53, ⟨I53, O53, p53, f53⟩), (54, ⟨I54, O54, p54, f54⟩), (70, ⟨I70, O70, p70, f70⟩), (97, ⟨I97, O97, p97, f97⟩), (69, ⟨I69, O69, p69, f69⟩), (98, ⟨I98, O98, p98, f98⟩), (51, ⟨I51, O51, p51, f51⟩)], loops := [], globs := G1 } 9 45 Go.Proofs.Tryd.f45 I45 O45 (a0, a1, ()) = t45 p82 f82 p53 f53 p54 f54 p70 f70 p97 f97 p69 f69 p98 f98 p51 f51 a0 a1 := by kernel_rfl
noncomputable def T45 (x : DenS I45) : Option (DenS O45) := t45 S82.pre S82.F S53.pre S53.F S54.pre S54.F S70.pre S70.F S97.pre S97.F S69.pre S69.F S98.pre S98.F S51.pre S51.F x.1 x.2.1
noncomputable def C45 : Cfg := { P := Go.Proofs.Tryd.prog, sums := [(82, S82), (53, S53), (54, S54), (70, S70), (97, S97), (69, S69), (98, S98), (51, S51)], loops := [], globs := G1 }
noncomputable def S45 : Sum := sumOf I45 O45 T45 (DenS.dflt O45)
theorem S45_sound : Sound Go.Proofs.Tryd.prog G1 45 S45 :=
  fn_sound C45 9 45 Go.Proofs.Tryd.f45 mixedOk (by kernel_rfl) (by kernel_rfl) (by kernel_rfl) ⟨S82_sound.more G01, ⟨S53_sound.more G01, ⟨S54_sound.more G01, ⟨S70_sound.more G01, ⟨S97_sound, ⟨S69_sound.more G01, ⟨S98_sound, ⟨S51_sound, trivial⟩⟩⟩⟩⟩⟩⟩⟩ trivial I45 O45 T45 _ fun x => r45 S82.pre S82.F S53.pre S53.F S54.pre S54.F S70.pre S70.F S97.pre S97.F S69.pre S69.F S98.pre S98.F S51.pre S51.F x.1 x.2.1
/-- vernier/vernierlaw13.OrderNeighbours -/
abbrev I11 : Sig := [(false, .int .i64), (false, .int .u64)]
abbrev O11 : Sig := [(false, .bool)]
noncomputable def t11 (p16 : DenS I16 → Bool) (f16 : DenS I16 → DenS O16) (p41 : DenS I41 → Bool) (f41 : DenS I41 → DenS O41) (p42 : DenS I42 → Bool) (f42 : DenS I42 → DenS O42) (p14 : DenS I14 → Bool) (f14 : DenS I14 → DenS O14) (p43 : DenS I43 → Bool) (f43 : DenS I43 → DenS O43) (p44 : DenS I44 → Bool) (f44 : DenS I44 → DenS O44) (p45 : DenS I45 → Bool) (f45 : DenS I45 → DenS O45) (p40 : DenS I40 → Bool) (f40 : DenS I40 → DenS O40) (p46 : DenS I46 → Bool) (f46 : DenS I46 → DenS O46) (a0 : Den (.int .i64)) (a1 : Den (.int .u64)) : Option (DenS O11) :=
  bif (p16 ()) then
  (bif (!(f16 ()).1) then
  (some (false, ()))
  else bif (p40 (a0, (a1, ()))) then
  (bif (p41 (a0, (a1, ()))) then
  (bif ((f40 (a0, (a1, ()))).2.1 != (0 : Int)) then
  (some ((((f41 (a0, (a1, ()))).2.1 == (0 : Int)) || ((f41 (a0, (a1, ()))).2.1 == (1 : Int))), ()))
  else bif (p42 (a0, ((f41 (a0, (a1, ()))).1, ()))) then
  (bif (p14 (a0, (a1, ((f41 (a0, (a1, ()))).1, (true, ()))))) then
  (bif (p14 (a0, (a1, ((f42 (a0, ((f41 (a0, (a1, ()))).1, ()))).1, (true, ()))))) then
  (bif (((((((((f41 (a0, (a1, ()))).2.2.1 != (0 : Int)) || ((f42 (a0, ((f41 (a0, (a1, ()))).1, ()))).2.2.1 != (0 : Int))) || ((f14 (a0, (a1, ((f41 (a0, (a1, ()))).1, (true, ()))))).2.2.1 != (0 : Int))) || ((f14 (a0, (a1, ((f42 (a0, ((f41 (a0, (a1, ()))).1, ()))).1, (true, ()))))).2.2.1 != (0 : Int))) || ((f41 (a0, (a1, ()))).2.1 != (0 : Int))) || ((f42 (a0, ((f41 (a0, (a1, ()))).1, ()))).2.1 != (0 : Int))) || ((f14 (a0, (a1, ((f41 (a0, (a1, ()))).1, (true, ()))))).1 != (0 : Int))) || ((f14 (a0, (a1, ((f42 (a0, ((f41 (a0, (a1, ()))).1, ()))).1, (true, ()))))).1 != (1 : Int))) then
  (some (false, ()))
  else bif (p40 (a0, ((f41 (a0, (a1, ()))).1, ()))) then
  (bif ((f40 (a0, ((f41 (a0, (a1, ()))).1, ()))).2.1 != (0 : Int)) then
  (bif (p43 (a0, (false, ()))) then
  (some ((((f43 (a0, (false, ()))).2.1 == (0 : Int)) && (a1 == (f43 (a0, (false, ()))).1)), ()))
  else none)
  else bif (p44 ((f40 (a0, ((f41 (a0, (a1, ()))).1, ()))).1, ((f40 (a0, (a1, ()))).1, ()))) then
  (bif (p45 (a0, (a1, ()))) then
  (bif (p45 (a0, ((f41 (a0, (a1, ()))).1, ()))) then
  (bif (p40 (a0, ((f45 (a0, (a1, ()))).1, ()))) then
  (bif (p40 (a0, ((f45 (a0, ((f41 (a0, (a1, ()))).1, ()))).1, ()))) then
  (bif (p46 ((f44 ((f40 (a0, ((f41 (a0, (a1, ()))).1, ()))).1, ((f40 (a0, (a1, ()))).1, ()))).1, ((f40 (a0, ((f45 (a0, (a1, ()))).1, ()))).1, ()))) then
  (bif (p46 ((f44 ((f40 (a0, ((f41 (a0, (a1, ()))).1, ()))).1, ((f40 (a0, (a1, ()))).1, ()))).1, ((f40 (a0, ((f45 (a0, ((f41 (a0, (a1, ()))).1, ()))).1, ()))).1, ()))) then
  (some ((((((((((((f44 ((f40 (a0, ((f41 (a0, (a1, ()))).1, ()))).1, ((f40 (a0, (a1, ()))).1, ()))).2.1 == (0 : Int)) && ((f45 (a0, (a1, ()))).2.2.1 == (0 : Int))) && ((f45 (a0, ((f41 (a0, (a1, ()))).1, ()))).2.2.1 == (0 : Int))) && ((f40 (a0, ((f45 (a0, (a1, ()))).1, ()))).2.1 == (0 : Int))) && ((f40 (a0, ((f45 (a0, ((f41 (a0, (a1, ()))).1, ()))).1, ()))).2.1 == (0 : Int))) && ((f46 ((f44 ((f40 (a0, ((f41 (a0, (a1, ()))).1, ()))).1, ((f40 (a0, (a1, ()))).1, ()))).1, ((f40 (a0, ((f45 (a0, (a1, ()))).1, ()))).1, ()))).2.1 == (0 : Int))) && ((f46 ((f44 ((f40 (a0, ((f41 (a0, (a1, ()))).1, ()))).1, ((f40 (a0, (a1, ()))).1, ()))).1, ((f40 (a0, ((f45 (a0, ((f41 (a0, (a1, ()))).1, ()))).1, ()))).1, ()))).2.1 == (0 : Int))) && (((f46 ((f44 ((f40 (a0, ((f41 (a0, (a1, ()))).1, ()))).1, ((f40 (a0, (a1, ()))).1, ()))).1, ((f40 (a0, ((f45 (a0, (a1, ()))).1, ()))).1, ()))).1 == (0 : Int)) || ((f46 ((f44 ((f40 (a0, ((f41 (a0, (a1, ()))).1, ()))).1, ((f40 (a0, (a1, ()))).1, ()))).1, ((f40 (a0, ((f45 (a0, ((f41 (a0, (a1, ()))).1, ()))).1, ()))).1, ()))).1 == (0 : Int)))) && (decide ((f46 ((f44 ((f40 (a0, ((f41 (a0, (a1, ()))).1, ()))).1, ((f40 (a0, (a1, ()))).1, ()))).1, ((f40 (a0, ((f45 (a0, (a1, ()))).1, ()))).1, ()))).1 ≤ (0 : Int)))) && (decide ((f46 ((f44 ((f40 (a0, ((f41 (a0, (a1, ()))).1, ()))).1, ((f40 (a0, (a1, ()))).1, ()))).1, ((f40 (a0, ((f45 (a0, ((f41 (a0, (a1, ()))).1, ()))).1, ()))).1, ()))).1 ≤ (0 : Int)))), ()))
  else none)
  else none)
  else none)
  else none)
  else none)
  else none)
  else none)
  else none)
  else none)
  else none)
  else none)
  else none)
  else none)
  else none
theorem r11 (p16 : DenS I16 → Bool) (f16 : DenS I16 → DenS O16) (p41 : DenS I41 → Bool) (f41 : DenS I41 → DenS O41) (p42 : DenS I42 → Bool) (f42 : DenS I42 → DenS O42) (p14 : DenS I14 → Bool) (f14 : DenS I14 → DenS O14) (p43 : DenS I43 → Bool) (f43 : DenS I43 → DenS O43) (p44 : DenS I44 → Bool) (f44 : DenS I44 → DenS O44) (p45 : DenS I45 → Bool) (f45 : DenS I45 → DenS O45) (p40 : DenS I40 → Bool) (f40 : DenS I40 → DenS O40) (p46 : DenS I46 → Bool) (f46 : DenS I46 → DenS O46) (a0 : Den (.int .i64)) (a1 : Den (.int .u64)) :
    run { P := Go.Proofs.Tryd.prog, sums := [(16, ⟨I16, O16, p16, f16⟩), (41, ⟨I41, O41, p41, f41⟩), (42, ⟨I42, O42, p42, f42⟩), (14, ⟨I14, O14, p14, f14⟩), (43, ⟨I43, O43, p43, f43⟩), (44, ⟨I44, O44, p44, f44⟩), (45, ⟨I45, O45, p45, f45⟩), (40, ⟨I40, O40, p40, f40⟩), (46, ⟨I46, O46, p46, f46⟩)], loops := [], globs := G1 } 9 11 Go.Proofs.Tryd.f11 I11 O11 (a0, a1, ()) = t11 p16 f16 p41 f41 p42 f42 p14 f14 p43 f43 p44 f44 p45 f45 p40 f40 p46 f46 a0 a1 := by kernel_rfl
noncomputable def T11 (x : DenS I11) : Option (DenS O11) := t11 S16.pre S16.F S41.pre S41.F S42.pre S42.F S14.pre S14.F S43.pre S43.F S44.pre S44.F S45.pre S45.F S40.pre S40.F S46.pre S46.F x.1 x.2.1
noncomputable def C11 : Cfg := { P := Go.Proofs.Tryd.prog, sums := [(16, S16), (41, S41), (42, S42), (14, S14), (43, S43), (44, S44), (45, S45), (40, S40), (46, S46)], loops := [], globs := G1 }
noncomputable def S11 : Sum := sumOf I11 O11 T11 (DenS.dflt O11)
theorem S11_sound : Sound Go.Proofs.Tryd.prog G1 11 S11 :=
  fn_sound C11 9 11 Go.Proofs.Tryd.f11 mixedOk (by kernel_rfl) (by kernel_rfl) (by kernel_rfl) ⟨S16_sound.more G01, ⟨S41_sound.more G01, ⟨S42_sound.more G01, ⟨S14_sound.more G01, ⟨S43_sound, ⟨S44_sound, ⟨S45_sound, ⟨S40_sound, ⟨S46_sound, trivial⟩⟩⟩⟩⟩⟩⟩⟩⟩ trivial I11 O11 T11 _ fun x => r11 S16.pre S16.F S41.pre S41.F S42.pre S42.F S14.pre S14.F S43.pre S43.F S44.pre S44.F S45.pre S45.F S40.pre S40.F S46.pre S46.F x.1 x.2.1
end Vx
namespace Vx
open Go
theorem pre40 {x : DenS I40} {y : DenS O40} (h : T40 x = some y) : S40.pre x = true := sum_pre (T := T40) h
theorem fun40 {x : DenS I40} {y : DenS O40} (h : T40 x = some y) : S40.F x = y := sum_F (T := T40) h
theorem pre103 {x : DenS I103} {y : DenS O103} (h : T103 x = some y) : S103.pre x = true := sum_pre (T := T103) h
theorem fun103 {x : DenS I103} {y : DenS O103} (h : T103 x = some y) : S103.F x = y := sum_F (T := T103) h
theorem pre99 {x : DenS I99} {y : DenS O99} (h : T99 x = some y) : S99.pre x = true := sum_pre (T := T99) h
theorem fun99 {x : DenS I99} {y : DenS O99} (h : T99 x = some y) : S99.F x = y := sum_F (T := T99) h
theorem pre100 {x : DenS I100} {y : DenS O100} (h : T100 x = some y) : S100.pre x = true := sum_pre (T := T100) h
theorem fun100 {x : DenS I100} {y : DenS O100} (h : T100 x = some y) : S100.F x = y := sum_F (T := T100) h
theorem pre172 {x : DenS I172} {y : DenS O172} (h : T172 x = some y) : S172.pre x = true := sum_pre (T := T172) h
theorem fun172 {x : DenS I172} {y : DenS O172} (h : T172 x = some y) : S172.F x = y := sum_F (T := T172) h
theorem pre142 {x : DenS I142} {y : DenS O142} (h : T142 x = some y) : S142.pre x = true := sum_pre (T := T142) h
theorem fun142 {x : DenS I142} {y : DenS O142} (h : T142 x = some y) : S142.F x = y := sum_F (T := T142) h
theorem pre144 {x : DenS I144} {y : DenS O144} (h : T144 x = some y) : S144.pre x = true := sum_pre (T := T144) h
theorem fun144 {x : DenS I144} {y : DenS O144} (h : T144 x = some y) : S144.F x = y := sum_F (T := T144) h
theorem pre1174 {x : DenS I1174} {y : DenS O1174} (h : T1174 x = some y) : S1174.pre x = true := sum_pre (T := T1174) h
theorem fun1174 {x : DenS I1174} {y : DenS O1174} (h : T1174 x = some y) : S1174.F x = y := sum_F (T := T1174) h
theorem pre1146 {x : DenS I1146} {y : DenS O1146} (h : T1146 x = some y) : S1146.pre x = true := sum_pre (T := T1146) h
theorem fun1146 {x : DenS I1146} {y : DenS O1146} (h : T1146 x = some y) : S1146.F x = y := sum_F (T := T1146) h
theorem pre145 {x : DenS I145} {y : DenS O145} (h : T145 x = some y) : S145.pre x = true := sum_pre (T := T145) h
theorem fun145 {x : DenS I145} {y : DenS O145} (h : T145 x = some y) : S145.F x = y := sum_F (T := T145) h
theorem pre101 {x : DenS I101} {y : DenS O101} (h : T101 x = some y) : S101.pre x = true := sum_pre (T := T101) h
theorem fun101 {x : DenS I101} {y : DenS O101} (h : T101 x = some y) : S101.F x = y := sum_F (T := T101) h
theorem pre104 {x : DenS I104} {y : DenS O104} (h : T104 x = some y) : S104.pre x = true := sum_pre (T := T104) h
theorem fun104 {x : DenS I104} {y : DenS O104} (h : T104 x = some y) : S104.F x = y := sum_F (T := T104) h
theorem pre49 {x : DenS I49} {y : DenS O49} (h : T49 x = some y) : S49.pre x = true := sum_pre (T := T49) h
theorem fun49 {x : DenS I49} {y : DenS O49} (h : T49 x = some y) : S49.F x = y := sum_F (T := T49) h
theorem pre47 {x : DenS I47} {y : DenS O47} (h : T47 x = some y) : S47.pre x = true := sum_pre (T := T47) h
theorem fun47 {x : DenS I47} {y : DenS O47} (h : T47 x = some y) : S47.F x = y := sum_F (T := T47) h
theorem pre106 {x : DenS I106} {y : DenS O106} (h : T106 x = some y) : S106.pre x = true := sum_pre (T := T106) h
theorem fun106 {x : DenS I106} {y : DenS O106} (h : T106 x = some y) : S106.F x = y := sum_F (T := T106) h
theorem pre51 {x : DenS I51} {y : DenS O51} (h : T51 x = some y) : S51.pre x = true := sum_pre (T := T51) h
theorem fun51 {x : DenS I51} {y : DenS O51} (h : T51 x = some y) : S51.F x = y := sum_F (T := T51) h
theorem pre44 {x : DenS I44} {y : DenS O44} (h : T44 x = some y) : S44.pre x = true := sum_pre (T := T44) h
theorem fun44 {x : DenS I44} {y : DenS O44} (h : T44 x = some y) : S44.F x = y := sum_F (T := T44) h
theorem pre46 {x : DenS I46} {y : DenS O46} (h : T46 x = some y) : S46.pre x = true := sum_pre (T := T46) h
theorem fun46 {x : DenS I46} {y : DenS O46} (h : T46 x = some y) : S46.F x = y := sum_F (T := T46) h
theorem pre45 {x : DenS I45} {y : DenS O45} (h : T45 x = some y) : S45.pre x = true := sum_pre (T := T45) h
theorem fun45 {x : DenS I45} {y : DenS O45} (h : T45 x = some y) : S45.F x = y := sum_F (T := T45) h
end Vx
namespace VL
open Go Vx
/-- the zeros at a number's end -/
def tz (n : Nat) : Nat := if n = 0 then 0 else if n % 2 = 1 then 0 else tz (n / 2) + 1
termination_by n
decreasing_by omega
theorem tz_of : ∀ (t k : Nat), tz (2 ^ t * (2 * k + 1)) = t
  | 0, k => by
    rw [tz, Nat.pow_zero, Nat.one_mul, if_neg (by omega), if_pos (by omega)]
  | t + 1, k => by
    have e : 2 ^ (t + 1) * (2 * k + 1) = 2 * (2 ^ t * (2 * k + 1)) := by rw [Nat.pow_succ, Nat.mul_comm (2 ^ t) 2, Nat.mul_assoc]
    have hp : 0 < 2 ^ t * (2 * k + 1) := Nat.mul_pos (Nat.two_pow_pos t) (by omega)
    have ih := tz_of t k
    rw [e]
    generalize 2 ^ t * (2 * k + 1) = n at *
    rw [tz, if_neg (by omega), if_neg (by omega), show 2 * n / 2 = n by omega, ih]
theorem tz_split {n : Nat} (h : n ≠ 0) : ∃ k, n = 2 ^ tz n * (2 * k + 1) := by
  obtain ⟨t, k, e⟩ := two_split (x := n) (by omega)
  refine ⟨k, ?_⟩
  have := tz_of t k
  rw [← e] at this
  rw [this]; exact e
theorem word_split {x i t k r : Nat} (hx : x = 2 ^ t * (2 * k + 1)) (ht : t < 64) : (2 ^ 64) ^ i * (x + 2 ^ 64 * r) = 2 ^ (64 * i + t) * (2 * (k + 2 ^ (64 - t - 1) * r) + 1) := by
  have h1 : 2 ^ 64 = 2 ^ t * (2 ^ (64 - t - 1) * 2) := by rw [← Nat.pow_succ, ← Nat.pow_add]; congr 1; omega
  rw [pow64, hx, Nat.pow_add, Nat.mul_assoc]
  congr 1
  rw [h1, Nat.mul_assoc, ← Nat.mul_add]
  congr 1
  rw [Nat.mul_assoc, Nat.mul_left_comm]
  omega
abbrev Dya := Den (.pair (.bool) (.pair (.slice (.int .u64)) (.pair (.int .i64) (.unit))))
def dy (s : Bool) (n : Nat) (e : Int) : Dya := (s, Dw n, e, ())
theorem dy_zero : dy false 0 0 = (false, [], 0, ()) := by unfold dy; rw [Dw_zero]
theorem quo64m (i : Nat) (h : i ≤ 1000000) : quoI .i64 ((64 * i : Nat) : Int) 64 = (i : Int) := by
  rw [quoN _ (by omega), show 64 * i / 64 = i by omega]
theorem W100_eq (n : Nat) (h0 : n ≠ 0) (hl : (dg (2 ^ 64) n).length ≤ 1000000) (M : PMem P100_5.mem) :
    W100_5 (((0 : Int), (Dw n, ((), ((), ())))), M) = some (.inl ((((64 * (tz n / 64) : Nat) : Int), (Dw n, ((), ((), ())))), M)) := by
  have key := lfix_ind (m100_5 S102.pre S102.F S92.pre S92.F S141.pre S141.F) (fun x => (dg (2 ^ 64) n).length - x.1.1.toNat / 64)
    (fun x => ∃ i : Nat, i ≤ (dg (2 ^ 64) n).length ∧ nv (2 ^ 64) ((dg (2 ^ 64) n).take i) = 0 ∧ x = ((((64 * i : Nat) : Int), (Dw n, ((), ((), ())))), M))
    (fun _ => .inl ((((64 * (tz n / 64) : Nat) : Int), (Dw n, ((), ((), ())))), M)) ?_ (((0 : Int), (Dw n, ((), ((), ())))), M) ⟨0, Nat.zero_le _, rfl, rfl⟩
  · exact key
  intro L x hx hL
  obtain ⟨i, hi, hz, rfl⟩ := hx
  have hnv := nv_Dw n
  have ha := dg_lt (B := 2 ^ 64) (by decide) n
  have hlt : i < (dg (2 ^ 64) n).length := by
    rcases Nat.lt_or_ge i (dg (2 ^ 64) n).length with h | h
    · exact h
    · rw [List.take_of_length_le h, hnv] at hz; exact absurd hz h0
  unfold h100_5
  have e64 : IntKind.wrap .i64 (((64 * i : Nat) : Int) + 64) = ((64 * (i + 1) : Nat) : Int) := by rw [wrapI (by omega)]; omega
  have hxl := getD_lt (by decide) ha i
  unfold Dw at hL ⊢
  rcases Nat.eq_zero_or_pos ((dg (2 ^ 64) n).getD i 0) with hw | hw
  · simp (disch := omega) only [quo64m, wadd, wadd1, wadd64, wsubn, wsub1, wmul64, ilt_t, ilt_f, ile_t, ile_f, igt_t, igt_f, ige_t, ige_f, ipos_t, ipos_f, igt0_t, igt0_f, nnn, beq0_t, beq0_f, bne0_t, bne0_f, Int.toNat_natCast, Int.toNat_zero, cond_true, cond_false, Bool.and_self, Bool.true_and, Bool.and_true, Bool.false_and, Bool.and_false, Bool.not_true, Bool.not_false, Bool.or_self, Bool.true_or, Bool.or_true, Bool.false_or, Bool.or_false, Wd_len, Wd_getD, e64]
    refine hL _ ⟨i + 1, by omega, ?_, rfl⟩ (by simp only [Int.toNat_natCast]; omega)
    rw [nv_take_succ _ _ _ hlt, hz, hw, Nat.mul_zero]
  · simp (disch := omega) only [quo64m, wadd, wadd1, wadd64, wsubn, wsub1, wmul64, ilt_t, ilt_f, ile_t, ile_f, igt_t, igt_f, ige_t, ige_f, ipos_t, ipos_f, igt0_t, igt0_f, nnn, beq0_t, beq0_f, bne0_t, bne0_f, Int.toNat_natCast, Int.toNat_zero, cond_true, cond_false, Bool.and_self, Bool.true_and, Bool.and_true, Bool.false_and, Bool.and_false, Bool.not_true, Bool.not_false, Bool.or_self, Bool.true_or, Bool.or_true, Bool.false_or, Bool.or_false, Wd_len, Wd_getD]
    obtain ⟨t, k, e⟩ := two_split hw
    have ht : t < 64 := by
      have h1 : 2 ^ t * 1 ≤ 2 ^ t * (2 * k + 1) := Nat.mul_le_mul_left _ (by omega)
      exact (Nat.pow_lt_pow_iff_right (a := 2) (by decide)).1 (by omega)
    have hv : n = (2 ^ 64) ^ i * ((dg (2 ^ 64) n).getD i 0 + 2 ^ 64 * nv (2 ^ 64) ((dg (2 ^ 64) n).drop (i + 1))) := by
      have h1 := nv_split (2 ^ 64) (dg (2 ^ 64) n) i hi
      rw [hnv, hz, Nat.zero_add, nv_drop_next _ _ _ hlt] at h1
      exact h1
    rw [word_split e ht] at hv
    have htz : tz n = 64 * i + t := by rw [hv]; exact tz_of _ _
    rw [htz, show (64 * i + t) / 64 = i by omega]
theorem T100_eq (s : Bool) (l : List Nat) (hl : Ws l) (e : Int) (he : -100000000 ≤ e ∧ e ≤ 100000000) :
    T100 ((s, Wd l, e, ()), ()) = some (if nv (2 ^ 64) l = 0 then dy false 0 0 else dy s (nv (2 ^ 64) l / 2 ^ tz (nv (2 ^ 64) l)) (e + tz (nv (2 ^ 64) l)), ()) := by
  show t100 S102.pre S102.F S92.pre S92.F S141.pre S141.F W100_5 (s, Wd l, e, ()) = _
  unfold t100
  dsimp only
  have p0 := T102_eq l hl
  simp only [pre102 p0, fun102 p0, cond_true]
  have hlt := nv_lt (B := 2 ^ 64) (by decide) l hl.1
  have hll := hl.2
  generalize hn : nv (2 ^ 64) l = n at *
  have hdl : (dg (2 ^ 64) n).length ≤ 1000000 := Nat.le_trans (dg_len_le (by decide) _ _ hlt) hll
  by_cases h0 : n = 0
  · subst h0
    rw [Dw_zero, if_pos rfl, dy_zero]; rfl
  · have hlen : (((Dw n).length : Int) == 0) = false := beq0_f _ (by have := Dw_len h0; omega)
    rw [hlen, cond_false, if_neg h0]
    have hw := W100_eq n h0 hdl ((s, Wd l, e, ()), (false, [], 0, ()), ())
    rw [show W100_5 (((0 : Int), (Dw n, ((), ((), ())))), ((s, Wd l, e, ()), ((false, ([], ((0 : Int), ()))), ()))) = _ from hw]
    dsimp only [obind, obind2]
    obtain ⟨k, hk⟩ := tz_split h0
    have htl : tz n / 64 < (dg (2 ^ 64) n).length := by
      rcases Nat.lt_or_ge (tz n / 64) (dg (2 ^ 64) n).length with h | h
      · exact h
      · exfalso
        have h1 := dg_len_gt (B := 2 ^ 64) (by decide) n
        rw [pow64] at h1
        have h2 : 2 ^ (64 * (dg (2 ^ 64) n).length) ≤ 2 ^ tz n := Nat.pow_le_pow_right (by decide) (by omega)
        have h3 : 2 ^ tz n * 1 ≤ 2 ^ tz n * (2 * k + 1) := Nat.mul_le_mul_left _ (by omega)
        omega
    have hword : ∃ k', (dg (2 ^ 64) n).getD (tz n / 64) 0 = 2 ^ (tz n % 64) * (2 * k' + 1) := by
      have h1 : (dg (2 ^ 64) n).getD (tz n / 64) 0 = n / (2 ^ 64) ^ (tz n / 64) % 2 ^ 64 := by
        have h2 : dg (2 ^ 64) n = pd (2 ^ 64) (dg (2 ^ 64) n).length n := pd_at (by decide) (dg_lt (by decide) n) rfl (nv_Dw n)
        rw [h2, pd_get _ _ _ _ htl]
      have h3 : n / (2 ^ 64) ^ (tz n / 64) = 2 ^ (tz n % 64) * (2 * k + 1) := by
        have h4 : 2 ^ tz n = (2 ^ 64) ^ (tz n / 64) * 2 ^ (tz n % 64) := by rw [pow64, ← Nat.pow_add]; congr 1; omega
        have h5 : n = (2 ^ 64) ^ (tz n / 64) * (2 ^ (tz n % 64) * (2 * k + 1)) := by rw [← Nat.mul_assoc, ← h4]; exact hk
        have h6 := Nat.mul_div_cancel_left (2 ^ (tz n % 64) * (2 * k + 1)) (show 0 < (2 ^ 64) ^ (tz n / 64) from Nat.pow_pos (by decide))
        rw [← h5] at h6
        exact h6
      rw [h1, h3]
      have hr : tz n % 64 < 64 := Nat.mod_lt _ (by decide)
      generalize tz n % 64 = r at *
      have h6 : 2 ^ 64 = 2 ^ r * (2 ^ (64 - r - 1) * 2) := by rw [← Nat.pow_succ, ← Nat.pow_add]; congr 1; omega
      rw [h6, Nat.mul_mod_mul_left]
      refine ⟨(2 * k + 1) % (2 ^ (64 - r - 1) * 2) / 2, ?_⟩
      congr 1
      have h7 : (2 * k + 1) % (2 ^ (64 - r - 1) * 2) % 2 = (2 * k + 1) % 2 := Nat.mod_mod_of_dvd _ ⟨_, Nat.mul_comm _ _⟩
      omega
    obtain ⟨k', hk'⟩ := hword
    have hwl := getD_lt (B := 2 ^ 64) (by decide) (dg_lt (by decide) n) (tz n / 64)
    have p1 := T92_eq (t := tz n % 64) (k := k') (by rw [← hk']; exact hwl)
    rw [← hk'] at p1
    have p2 := T141_eq (dg (2 ^ 64) n) (dg_ws n hdl) (tz n) (by omega)
    rw [nv_Dw] at p2
    have e1 : IntKind.wrap .i64 (((64 * (tz n / 64) : Nat) : Int) + ((tz n % 64 : Nat) : Int)) = (tz n : Int) := by rw [wrapI (by omega)]; omega
    have e2 : IntKind.wrap .i64 (e + (tz n : Int)) = e + (tz n : Int) := wrapI (by omega)
    have hg : decide (((tz n / 64 : Nat) : Int) < ((dg (2 ^ 64) n).length : Int)) = true := decide_eq_true (by omega)
    unfold Dw at *
    simp (disch := omega) only [quo64m, wadd, wadd1, wadd64, wsubn, wsub1, wmul64, ilt_t, ilt_f, ile_t, ile_f, igt_t, igt_f, ige_t, ige_f, ipos_t, ipos_f, igt0_t, igt0_f, nnn, beq0_t, beq0_f, bne0_t, bne0_f, Int.toNat_natCast, Int.toNat_zero, cond_true, cond_false, Bool.and_self, Bool.true_and, Bool.and_true, Bool.false_and, Bool.and_false, Bool.not_true, Bool.not_false, Bool.or_self, Bool.true_or, Bool.or_true, Bool.false_or, Bool.or_false, Wd_len, Wd_getD, pre92 p1, fun92 p1, e1, pre141 p2, fun141 p2, e2]
    rfl
/-- odd, over numbers -/
theorem T100_dy (s : Bool) {n : Nat} (hn : n < (2 ^ 64) ^ 5000) (e : Int) (he : -100000000 ≤ e ∧ e ≤ 100000000) :
    T100 (dy s n e, ()) = some (if n = 0 then dy false 0 0 else dy s (n / 2 ^ tz n) (e + tz n), ()) := by
  have := T100_eq s (dg (2 ^ 64) n) (Dw_ws hn) e he
  rw [nv_Dw] at this
  exact this
theorem tz_odd (k : Nat) : tz (2 * k + 1) = 0 := by have := tz_of 0 k; rwa [Nat.pow_zero, Nat.one_mul] at this
theorem set_same' {l : List Nat} {i : Nat} (h : i < l.length) : l.set i (l.getD i 0) = l := by
  rw [List.getD_eq_getElem?_getD, List.getElem?_eq_getElem h]
  exact List.set_getElem_self h
theorem W172_eq (a : List Nat) (ha : ∀ x ∈ a, x < 2 ^ 64) (hlen : a.length ≤ 1000000) (w s : Nat) (hs : s < 64) (hw : w ≤ 10000000) (i : Nat) (hi : i ≤ a.length) :
    W172_6 (((a.length : Int), (Wd a, ((w : Int), ((s : Int), ((i : Int), ((), ())))))), (Wd (pd (2 ^ 64) (w + a.length + 1) (2 ^ (64 * w + s) * nv (2 ^ 64) (a.take i))), ())) = some (.inl (((), ()), (Wd (pd (2 ^ 64) (w + a.length + 1) (2 ^ (64 * w + s) * nv (2 ^ 64) a)), ()))) := by
  have key := lfix_ind (m172_6 S102.pre S102.F) (fun x => a.length - x.1.2.2.2.2.1.toNat)
    (fun x => ∃ i : Nat, i ≤ a.length ∧ x = (((a.length : Int), (Wd a, ((w : Int), ((s : Int), ((i : Int), ((), ())))))), (Wd (pd (2 ^ 64) (w + a.length + 1) (2 ^ (64 * w + s) * nv (2 ^ 64) (a.take i))), ())))
    (fun _ => .inl (((), ()), (Wd (pd (2 ^ 64) (w + a.length + 1) (2 ^ (64 * w + s) * nv (2 ^ 64) a)), ()))) ?_ _ ⟨i, hi, rfl⟩
  · exact key
  intro L x hx hL
  obtain ⟨i, hi, rfl⟩ := hx
  unfold h172_6
  rcases Nat.lt_or_ge i a.length with hlt | hge
  · have hxl := getD_lt (by decide) ha i
    have ht := nv_lt (B := 2 ^ 64) (by decide) (a.take i) fun x hx => ha x (List.mem_of_mem_take hx)
    rw [List.length_take, Nat.min_eq_left (by omega), pow64] at ht
    have hV : 2 ^ (64 * w + s) * nv (2 ^ 64) (a.take i) < 2 ^ (64 * (w + i) + s) := by
      have e : 64 * (w + i) + s = (64 * w + s) + 64 * i := by omega
      rw [e, Nat.pow_add _ (64 * w + s)]
      exact Nat.mul_lt_mul_of_pos_left ht (Nat.two_pow_pos _)
    have hnext := nv_take_succ (2 ^ 64) a i hlt
    have hgo := hL (((a.length : Int), (Wd a, ((w : Int), ((s : Int), (((i + 1 : Nat) : Int), ((), ())))))), (Wd (pd (2 ^ 64) (w + a.length + 1) (2 ^ (64 * w + s) * nv (2 ^ 64) (a.take (i + 1)))), ())) ⟨i + 1, by omega, rfl⟩ (by simp only [Int.toNat_natCast]; omega)
    rw [hnext, Nat.mul_add, ← Nat.mul_assoc, show 2 ^ (64 * w + s) * (2 ^ 64) ^ i = 2 ^ (64 * (w + i) + s) by rw [pow64, ← Nat.pow_add]; congr 1; omega] at hgo
    have hz1 : (pd (2 ^ 64) (w + a.length + 1) (2 ^ (64 * w + s) * nv (2 ^ 64) (a.take i))).getD (w + i + 1) 0 = 0 := by
      rw [pd_get _ _ _ _ (by omega), pow64]
      have h64 : 2 ^ (64 * (w + i) + s) ≤ 2 ^ (64 * (w + i + 1)) := Nat.pow_le_pow_right (by decide) (by omega)
      rw [Nat.div_eq_of_lt (by omega)]
    generalize hout : pd (2 ^ 64) (w + a.length + 1) (2 ^ (64 * w + s) * nv (2 ^ 64) (a.take i)) = out at *
    obtain ⟨q1, q2, q3⟩ := left_step (k := w + i) hs hout.symm (by omega) hV hxl
    have hol : out.length = w + a.length + 1 := by rw [← hout, pd_len]
    have g1 : a.getD i 0 * 2 ^ s % 2 ^ 64 = (a.getD i 0 % 2 ^ (64 - s)) * 2 ^ s := by
      have : 2 ^ 64 = 2 ^ (64 - s) * 2 ^ s := by rw [← Nat.pow_add]; congr 1; omega
      rw [this, Nat.mul_mod_mul_right]
    have e8 : IntKind.wrap .u64 (64 - (s : Int)) = ((64 - s : Nat) : Int) := by rw [wrapU (by omega)]; omega
    rcases Nat.eq_zero_or_pos s with hs0 | hs0
    · have hq : out.set (w + i) (out.getD (w + i) 0 + a.getD i 0 % 2 ^ (64 - s) * 2 ^ s) = pd (2 ^ 64) (w + a.length + 1) (2 ^ (64 * w + s) * nv (2 ^ 64) (a.take i) + 2 ^ (64 * (w + i) + s) * a.getD i 0) := by
        rw [← q3]
        have hd : a.getD i 0 / 2 ^ (64 - s) = 0 := by rw [hs0]; exact Nat.div_eq_of_lt hxl
        have hg : (out.set (w + i) (out.getD (w + i) 0 + a.getD i 0 % 2 ^ (64 - s) * 2 ^ s)).getD (w + i + 1) 0 = 0 := by rw [getD_set_ne (by omega)]; exact hz1
        rw [hd]
        have := set_same' (l := out.set (w + i) (out.getD (w + i) 0 + a.getD i 0 % 2 ^ (64 - s) * 2 ^ s)) (i := w + i + 1) (by rw [List.length_set]; omega)
        rw [hg] at this
        exact this.symm
      simp (disch := omega) only [wadd, wadd1, wadd64, wsubn, wsub1, wmul64, ilt_t, ilt_f, ile_t, ile_f, igt_t, igt_f, ige_t, ige_f, ipos_t, ipos_f, igt0_t, igt0_f, nnn, beq0_t, beq0_f, bne0_t, bne0_f, Int.toNat_natCast, Int.toNat_zero, cond_true, cond_false, Bool.and_self, Bool.true_and, Bool.and_true, Bool.false_and, Bool.and_false, Bool.not_true, Bool.not_false, Bool.or_self, Bool.true_or, Bool.or_true, Bool.false_or, Bool.or_false, Wd_len, Wd_getD, shlN _ s (by omega), g1, orN q1 q2, Wd_set, hq]
      exact hgo
    · simp (disch := omega) only [wadd, wadd1, wadd64, wsubn, wsub1, wmul64, ilt_t, ilt_f, ile_t, ile_f, igt_t, igt_f, ige_t, ige_f, ipos_t, ipos_f, igt0_t, igt0_f, nnn, beq0_t, beq0_f, bne0_t, bne0_f, Int.toNat_natCast, Int.toNat_zero, cond_true, cond_false, Bool.and_self, Bool.true_and, Bool.and_true, Bool.false_and, Bool.and_false, Bool.not_true, Bool.not_false, Bool.or_self, Bool.true_or, Bool.or_true, Bool.false_or, Bool.or_false, Wd_len, Wd_getD, e8, shlN _ s (by omega), shrN _ (64 - s) (by omega), g1, orN q1 q2, Wd_set, List.length_set, q3]
      exact hgo
  · have e : i = a.length := by omega
    subst e
    rw [List.take_length]
    simp (disch := omega) only [wadd, wadd1, wadd64, wsubn, wsub1, wmul64, ilt_t, ilt_f, ile_t, ile_f, igt_t, igt_f, ige_t, ige_f, ipos_t, ipos_f, igt0_t, igt0_f, nnn, beq0_t, beq0_f, bne0_t, bne0_f, Int.toNat_natCast, Int.toNat_zero, cond_true, cond_false, Bool.and_self, Bool.true_and, Bool.and_true, Bool.false_and, Bool.and_false, Bool.not_true, Bool.not_false, Bool.or_self, Bool.true_or, Bool.or_true, Bool.false_or, Bool.or_false]
theorem T172_eq {x : Nat} (hx : x < (2 ^ 64) ^ 5000) (n : Nat) (hn : n ≤ 1000000) : T172 (Dw x, (n : Int), ()) = some (Dw (x * 2 ^ n), ()) := by
  show t172 S102.pre S102.F W172_6 (Dw x) n = _
  unfold t172
  have hws := Dw_ws hx
  have hl : (dg (2 ^ 64) x).length ≤ 5000 := dg_len_le (by decide) _ _ hx
  have hv := nv_Dw x
  by_cases h0 : x = 0
  · subst h0
    rw [Dw_zero, Nat.zero_mul, Dw_zero]; rfl
  · have hlen : (((Dw x).length : Int) == 0) = false := beq0_f _ (by have := Dw_len h0; omega)
    rw [hlen, cond_false]
    have e4 : Int.tmod (n : Int) 64 = ((n % 64 : Nat) : Int) := rfl
    have e5 : IntKind.wrap .u64 ((n % 64 : Nat) : Int) = ((n % 64 : Nat) : Int) := wu_id _ (by omega)
    have hw := W172_eq (dg (2 ^ 64) x) hws.1 (by omega) (n / 64) (n % 64) (Nat.mod_lt _ (by decide)) (by omega) 0 (Nat.zero_le _)
    rw [show nv (2 ^ 64) ((dg (2 ^ 64) x).take 0) = 0 by rfl, Nat.mul_zero, pd_zero, show 64 * (n / 64) + n % 64 = n by omega, show ((0 : Nat) : Int) = 0 from rfl, hv] at hw
    have e3 : decide (((n / 64 + (dg (2 ^ 64) x).length + 1 : Nat) : Int) * 8 ≤ 140737488355328) = true := decide_eq_true (by omega)
    have hV : 2 ^ n * x < (2 ^ 64) ^ (n / 64 + (dg (2 ^ 64) x).length + 1) := by
      have := dg_len_gt (B := 2 ^ 64) (by decide) x
      rw [pow64] at this ⊢
      have h1 : 2 ^ n * x < 2 ^ n * 2 ^ (64 * (dg (2 ^ 64) x).length) := Nat.mul_lt_mul_of_pos_left this (Nat.two_pow_pos _)
      rw [← Nat.pow_add] at h1
      exact Nat.lt_of_lt_of_le h1 (Nat.pow_le_pow_right (by decide) (by omega))
    have p1 := T102_eq (pd (2 ^ 64) (n / 64 + (dg (2 ^ 64) x).length + 1) (2 ^ n * x)) ⟨pd_lt (by decide) _ _, by rw [pd_len]; omega⟩
    rw [pd_nv (by decide) _ _ hV, Nat.mul_comm (2 ^ n)] at p1
    rw [Nat.mul_comm (2 ^ n)] at hw
    unfold Dw at *
    simp (disch := omega) only [wadd, wadd1, wadd64, wsubn, wsub1, wmul64, ilt_t, ilt_f, ile_t, ile_f, igt_t, igt_f, ige_t, ige_f, ipos_t, ipos_f, igt0_t, igt0_f, nnn, beq0_t, beq0_f, bne0_t, bne0_f, Int.toNat_natCast, Int.toNat_zero, cond_true, cond_false, Bool.and_self, Bool.true_and, Bool.and_true, Bool.false_and, Bool.and_false, Bool.not_true, Bool.not_false, Bool.or_self, Bool.true_or, Bool.or_true, Bool.false_or, Bool.or_false, Wd_len, quoN n (by omega), e4, e5, e3, Wd_rep, hw]
    generalize pd (2 ^ 64) (n / 64 + (dg (2 ^ 64) x).length + 1) (x * 2 ^ n) = out at *
    show (bif S102.pre (Wd out, ()) then some (S102.F (Wd out, ())) else none) = _
    rw [pre102 p1, fun102 p1]
    rfl
end VL
namespace VL
open Go Vx
theorem W144_eq (a b : List Nat) (ha : ∀ x ∈ a, x < 2 ^ 64) (hb : ∀ x ∈ b, x < 2 ^ 64) (hla : a.length ≤ 1000000) (hab : a.length = b.length) :
    W144_7 ((Wd a, (Wd b, ((a.length : Int) - 1, ()))), ()) = some (if nv (2 ^ 64) a = nv (2 ^ 64) b then .inl ((), ()) else .inr (((if nv (2 ^ 64) a < nv (2 ^ 64) b then (-1 : Int) else 1), ()), ())) := by
  have key := lfix_ind (m144_7 S173.pre S173.F) (fun x => (x.1.2.2.1 + 1).toNat)
    (fun x => ∃ j : Nat, j ≤ a.length ∧ nv (2 ^ 64) (a.drop j) = nv (2 ^ 64) (b.drop j) ∧ x = ((Wd a, (Wd b, ((j : Int) - 1, ()))), ()))
    (fun _ => if nv (2 ^ 64) a = nv (2 ^ 64) b then .inl ((), ()) else .inr (((if nv (2 ^ 64) a < nv (2 ^ 64) b then (-1 : Int) else 1), ()), ())) ?_ ((Wd a, (Wd b, ((a.length : Int) - 1, ()))), ())
    ⟨a.length, Nat.le_refl _, by rw [List.drop_length, hab, List.drop_length], rfl⟩
  · exact key
  intro L x hx hL
  obtain ⟨j, hj, hd, rfl⟩ := hx
  unfold h144_7
  rcases j with _ | i
  · have e1 : decide ((((0 : Nat) : Int) - 1) ≥ 0) = false := rfl
    rw [List.drop_zero, List.drop_zero] at hd
    simp only [e1, cond_false, if_pos hd]
  · have e0 : (((i + 1 : Nat) : Int) - 1) = (i : Int) := by omega
    have e2 : IntKind.wrap .i64 ((i : Int) - 1) = (i : Int) - 1 := wrapI (by omega)
    have e3 : decide ((i : Int) ≥ 0) = true := decide_eq_true (by omega)
    simp (disch := omega) only [e0, e2, e3, wadd, wadd1, wadd64, wsubn, wsub1, wmul64, ilt_t, ilt_f, ile_t, ile_f, igt_t, igt_f, ige_t, ige_f, ipos_t, ipos_f, igt0_t, igt0_f, nnn, beq0_t, beq0_f, bne0_t, bne0_f, Int.toNat_natCast, Int.toNat_zero, cond_true, cond_false, Bool.and_self, Bool.true_and, Bool.and_true, Bool.false_and, Bool.and_false, Bool.not_true, Bool.not_false, Bool.or_self, Bool.true_or, Bool.or_true, Bool.false_or, Bool.or_false, Wd_len, Wd_getD]
    rcases Nat.lt_trichotomy (a.getD i 0) (b.getD i 0) with h | h | h
    · have hr := row_lt (by decide) ha (by omega) (by omega) hd h
      simp (disch := omega) only [wadd, wadd1, wadd64, wsubn, wsub1, wmul64, ilt_t, ilt_f, ile_t, ile_f, igt_t, igt_f, ige_t, ige_f, ipos_t, ipos_f, igt0_t, igt0_f, nnn, beq0_t, beq0_f, bne0_t, bne0_f, Int.toNat_natCast, Int.toNat_zero, cond_true, cond_false, Bool.and_self, Bool.true_and, Bool.and_true, Bool.false_and, Bool.and_false, Bool.not_true, Bool.not_false, Bool.or_self, Bool.true_or, Bool.or_true, Bool.false_or, Bool.or_false]
      rw [if_neg (by omega), if_pos hr]
    · simp (disch := omega) only [wadd, wadd1, wadd64, wsubn, wsub1, wmul64, ilt_t, ilt_f, ile_t, ile_f, igt_t, igt_f, ige_t, ige_f, ipos_t, ipos_f, igt0_t, igt0_f, nnn, beq0_t, beq0_f, bne0_t, bne0_f, Int.toNat_natCast, Int.toNat_zero, cond_true, cond_false, Bool.and_self, Bool.true_and, Bool.and_true, Bool.false_and, Bool.and_false, Bool.not_true, Bool.not_false, Bool.or_self, Bool.true_or, Bool.or_true, Bool.false_or, Bool.or_false]
      refine hL _ ⟨i, by omega, ?_, rfl⟩ (by simp only [Int.toNat_natCast]; omega)
      rw [nv_drop_next _ a i (by omega), nv_drop_next _ b i (by omega), hd, h]
    · have hr := row_lt (by decide) hb (by omega) (by omega) hd.symm h
      simp (disch := omega) only [wadd, wadd1, wadd64, wsubn, wsub1, wmul64, ilt_t, ilt_f, ile_t, ile_f, igt_t, igt_f, ige_t, ige_f, ipos_t, ipos_f, igt0_t, igt0_f, nnn, beq0_t, beq0_f, bne0_t, bne0_f, Int.toNat_natCast, Int.toNat_zero, cond_true, cond_false, Bool.and_self, Bool.true_and, Bool.and_true, Bool.false_and, Bool.and_false, Bool.not_true, Bool.not_false, Bool.or_self, Bool.true_or, Bool.or_true, Bool.false_or, Bool.or_false]
      rw [if_neg (by omega), if_neg (by omega)]
theorem T173_dw {x : Nat} (hx : x < (2 ^ 64) ^ 5000) : T173 (Dw x, ()) = some (Dw x, ()) := by
  have := T173_eq (dg (2 ^ 64) x) (Dw_ws hx).2
  rw [dg_trim (by decide)] at this
  exact this
theorem T144_eq {x y : Nat} (hx : x < (2 ^ 64) ^ 5000) (hy : y < (2 ^ 64) ^ 5000) : T144 (Dw x, Dw y, ()) = some (if x = y then 0 else if x < y then -1 else 1, ()) := by
  show t144 S173.pre S173.F W144_7 (Dw x) (Dw y) = _
  unfold t144
  have p0 := T173_dw hx
  have p1 := T173_dw hy
  have hX := Dw_ws hx
  have hY := Dw_ws hy
  have hlx := hX.2
  simp only [pre173 p0, fun173 p0, pre173 p1, fun173 p1, cond_true]
  clear p0 p1
  rcases Nat.lt_trichotomy (dg (2 ^ 64) x).length (dg (2 ^ 64) y).length with h | h | h
  · have hr := dg_len_lt (by decide) h
    unfold Dw
    simp (disch := omega) only [wadd, wadd1, wadd64, wsubn, wsub1, wmul64, ilt_t, ilt_f, ile_t, ile_f, igt_t, igt_f, ige_t, ige_f, ipos_t, ipos_f, igt0_t, igt0_f, nnn, beq0_t, beq0_f, bne0_t, bne0_f, Int.toNat_natCast, Int.toNat_zero, cond_true, cond_false, Bool.and_self, Bool.true_and, Bool.and_true, Bool.false_and, Bool.and_false, Bool.not_true, Bool.not_false, Bool.or_self, Bool.true_or, Bool.or_true, Bool.false_or, Bool.or_false, Wd_len]
    rw [if_neg (by omega), if_pos hr]
  · have hw := W144_eq _ _ hX.1 hY.1 hlx h
    rw [nv_Dw, nv_Dw] at hw
    have e2 : IntKind.wrap .i64 (((dg (2 ^ 64) x).length : Int) - 1) = ((dg (2 ^ 64) x).length : Int) - 1 := wrapI (by omega)
    unfold Dw
    simp (disch := omega) only [wadd, wadd1, wadd64, wsubn, wsub1, wmul64, ilt_t, ilt_f, ile_t, ile_f, igt_t, igt_f, ige_t, ige_f, ipos_t, ipos_f, igt0_t, igt0_f, nnn, beq0_t, beq0_f, bne0_t, bne0_f, Int.toNat_natCast, Int.toNat_zero, cond_true, cond_false, Bool.and_self, Bool.true_and, Bool.and_true, Bool.false_and, Bool.and_false, Bool.not_true, Bool.not_false, Bool.or_self, Bool.true_or, Bool.or_true, Bool.false_or, Bool.or_false, Wd_len, e2, hw]
    by_cases he : x = y
    · rw [if_pos he, if_pos he]; first | rfl | skip
    · rw [if_neg he, if_neg he]; first | rfl | skip
  · have hr := dg_len_lt (by decide) h
    unfold Dw
    simp (disch := omega) only [wadd, wadd1, wadd64, wsubn, wsub1, wmul64, ilt_t, ilt_f, ile_t, ile_f, igt_t, igt_f, ige_t, ige_f, ipos_t, ipos_f, igt0_t, igt0_f, nnn, beq0_t, beq0_f, bne0_t, bne0_f, Int.toNat_natCast, Int.toNat_zero, cond_true, cond_false, Bool.and_self, Bool.true_and, Bool.and_true, Bool.false_and, Bool.and_false, Bool.not_true, Bool.not_false, Bool.or_self, Bool.true_or, Bool.or_true, Bool.false_or, Bool.or_false, Wd_len]
    rw [if_neg (by omega), if_neg (by omega)]
theorem set_drop {out a : List Nat} {i v : Nat} (hol : out.length = i) (h : i < a.length) : (out ++ a.drop i).set i v = (out ++ [v]) ++ a.drop (i + 1) := by
  rw [List.set_append_right _ _ (by omega), hol, Nat.sub_self, List.drop_eq_getElem_cons h, List.set_cons_zero, List.append_assoc]
  rfl
theorem get_drop {out a : List Nat} {i : Nat} (hol : out.length = i) : (out ++ a.drop i).getD i 0 = a.getD i 0 := by
  rw [List.getD_eq_getElem?_getD, List.getElem?_append_right (by omega), hol, Nat.sub_self, List.getElem?_drop, Nat.add_zero, ← List.getD_eq_getElem?_getD]
theorem W1174_eq (a b : List Nat) (ha : ∀ x ∈ a, x < 2 ^ 64) (hb : ∀ x ∈ b, x < 2 ^ 64) (hla : a.length ≤ 1000000) (hba : b.length ≤ a.length) (hv : nv (2 ^ 64) b ≤ nv (2 ^ 64) a) :
    W1174_3 (((a.length : Int), (Wd b, ((0 : Int), ((0 : Int), ((), ()))))), (Wd a, ())) = some (.inl (((), ()), (Wd (pd (2 ^ 64) a.length (nv (2 ^ 64) a - nv (2 ^ 64) b)), ()))) := by
  have key := lfix_ind (m1174_3 S1173.pre S1173.F S157.pre S157.F S173.pre S173.F) (fun x => a.length - x.1.2.2.2.1.toNat)
    (fun x => ∃ (i : Nat) (out : List Nat) (c : Nat), i ≤ a.length ∧ out.length = i ∧ (∀ x ∈ out, x < 2 ^ 64) ∧ c ≤ 1 ∧ nv (2 ^ 64) (a.take i) + (2 ^ 64) ^ i * c = nv (2 ^ 64) (b.take i) + nv (2 ^ 64) out ∧
      x = (((a.length : Int), (Wd b, ((c : Int), ((i : Int), ((), ()))))), (Wd (out ++ a.drop i), ())))
    (fun _ => .inl (((), ()), (Wd (pd (2 ^ 64) a.length (nv (2 ^ 64) a - nv (2 ^ 64) b)), ()))) ?_ (((a.length : Int), (Wd b, ((0 : Int), ((0 : Int), ((), ()))))), (Wd a, ()))
    ⟨0, [], 0, Nat.zero_le _, rfl, (fun x hx => by simp at hx), by decide, by simp [nv], rfl⟩
  · exact key
  intro L x hx hL
  obtain ⟨i, out, c, hi, hol, hod, hc, hov, rfl⟩ := hx
  unfold h1174_3
  rcases Nat.lt_or_ge i a.length with hlt | hge
  · have hxa := getD_lt (by decide) ha i
    have hxb := getD_lt (by decide) hb i
    have hna := nv_take_next (2 ^ 64) a i
    have hnb := nv_take_next (2 ^ 64) b i
    have hzb : b.length ≤ i → b.getD i 0 = 0 := fun h => by rw [List.getD_eq_getElem?_getD, List.getElem?_eq_none h]; rfl
    have hset := fun v => set_drop (v := v) hol hlt
    have hlen : (out ++ a.drop i).length = a.length := by simp; omega
    have hget := get_drop (a := a) hol
    generalize hda : a.getD i 0 = da at *
    generalize hdb : b.getD i 0 = db at *
    have hgo : ∀ c' v : Nat, c' ≤ 1 → v < 2 ^ 64 → da + 2 ^ 64 * c' = db + c + v → L (((a.length : Int), (Wd b, ((c' : Int), (((i + 1 : Nat) : Int), ((), ()))))), (Wd (out ++ [v] ++ a.drop (i + 1)), ())) = _ := fun c' v h1 h2 h3 =>
      hL _ ⟨i + 1, out ++ [v], c', by omega, by simp; omega, app_lt hod h2, h1, by
        rw [hna, hnb, nv_snoc, hol, Nat.pow_succ]
        exact minus_step hov h3, rfl⟩ (by simp only [Int.toNat_natCast]; omega)
    have hgo2 := hgo (if da < db + c then 1 else 0) ((da + 2 ^ 64 - db - c) % 2 ^ 64) (by split <;> omega) (Nat.mod_lt _ (by decide)) (by split <;> omega)
    have hF := subF da db c hc hxa hxb
    have hP := subP (da : Int) (db : Int) c hc
    rcases Nat.lt_or_ge i b.length with hib | hib
    · simp (disch := omega) only [wadd, wadd1, wadd64, wsubn, wsub1, wmul64, ilt_t, ilt_f, ile_t, ile_f, igt_t, igt_f, ige_t, ige_f, ipos_t, ipos_f, igt0_t, igt0_f, nnn, beq0_t, beq0_f, bne0_t, bne0_f, Int.toNat_natCast, Int.toNat_zero, cond_true, cond_false, Bool.and_self, Bool.true_and, Bool.and_true, Bool.false_and, Bool.and_false, Bool.not_true, Bool.not_false, Bool.or_self, Bool.true_or, Bool.or_true, Bool.false_or, Bool.or_false, Wd_len, Wd_getD, hdb, hget, hF, hP, hlen, Wd_set, hset]
      exact hgo2
    · have h0 := hzb hib
      rw [h0] at hF hP
      simp (disch := omega) only [wadd, wadd1, wadd64, wsubn, wsub1, wmul64, ilt_t, ilt_f, ile_t, ile_f, igt_t, igt_f, ige_t, ige_f, ipos_t, ipos_f, igt0_t, igt0_f, nnn, beq0_t, beq0_f, bne0_t, bne0_f, Int.toNat_natCast, Int.toNat_zero, cond_true, cond_false, Bool.and_self, Bool.true_and, Bool.and_true, Bool.false_and, Bool.and_false, Bool.not_true, Bool.not_false, Bool.or_self, Bool.true_or, Bool.or_true, Bool.false_or, Bool.or_false, Wd_len, Wd_getD, hget]
      have hF' : S157.F ((da : Int), ((0 : Int), ((c : Int), ()))) = _ := hF
      have hP' : S157.pre ((da : Int), ((0 : Int), ((c : Int), ()))) = true := hP
      rw [h0] at hgo2
      simp (disch := omega) only [wadd, wadd1, wadd64, wsubn, wsub1, wmul64, ilt_t, ilt_f, ile_t, ile_f, igt_t, igt_f, ige_t, ige_f, ipos_t, ipos_f, igt0_t, igt0_f, nnn, beq0_t, beq0_f, bne0_t, bne0_f, Int.toNat_natCast, Int.toNat_zero, cond_true, cond_false, Bool.and_self, Bool.true_and, Bool.and_true, Bool.false_and, Bool.and_false, Bool.not_true, Bool.not_false, Bool.or_self, Bool.true_or, Bool.or_true, Bool.false_or, Bool.or_false, hF', hP', hlen, Wd_set, hset]
      exact hgo2
  · have e : i = a.length := by omega
    subst e
    rw [List.take_length, List.take_of_length_le hba] at hov
    have hlt := nv_lt (B := 2 ^ 64) (by decide) out hod
    rw [hol] at hlt
    have hc0 : (2 ^ 64) ^ a.length * c = 0 := by
      rcases (show c = 0 ∨ c = 1 by omega) with h | h
      · rw [h, Nat.mul_zero]
      · rw [h, Nat.mul_one] at hov; omega
    have ho := pd_at (B := 2 ^ 64) (v := nv (2 ^ 64) a - nv (2 ^ 64) b) (by decide) hod hol (by omega)
    rw [List.drop_length, List.append_nil]
    simp (disch := omega) only [wadd, wadd1, wadd64, wsubn, wsub1, wmul64, ilt_t, ilt_f, ile_t, ile_f, igt_t, igt_f, ige_t, ige_f, ipos_t, ipos_f, igt0_t, igt0_f, nnn, beq0_t, beq0_f, bne0_t, bne0_f, Int.toNat_natCast, Int.toNat_zero, cond_true, cond_false, Bool.and_self, Bool.true_and, Bool.and_true, Bool.false_and, Bool.and_false, Bool.not_true, Bool.not_false, Bool.or_self, Bool.true_or, Bool.or_true, Bool.false_or, Bool.or_false, Wd_len]
    rw [← ho]
theorem T1146_eq (l : List Nat) (hl : Ws l) : T1146 (Wd l, ()) = some (Dw (nv (2 ^ 64) l), ()) := by
  show t1146 S173.pre S173.F (Wd l) = _
  unfold t1146
  have p0 := T173_eq l hl.2
  have hle := (trim_len l).1
  have h2 := hl.2
  have e3 : decide ((((trimL l).length : Nat) : Int) * 8 ≤ 140737488355328) = true := decide_eq_true (by omega)
  simp (disch := omega) only [wadd, wadd1, wadd64, wsubn, wsub1, wmul64, ilt_t, ilt_f, ile_t, ile_f, igt_t, igt_f, ige_t, ige_f, ipos_t, ipos_f, igt0_t, igt0_f, nnn, beq0_t, beq0_f, bne0_t, bne0_f, Int.toNat_natCast, Int.toNat_zero, cond_true, cond_false, Bool.and_self, Bool.true_and, Bool.and_true, Bool.false_and, Bool.and_false, Bool.not_true, Bool.not_false, Bool.or_self, Bool.true_or, Bool.or_true, Bool.false_or, Bool.or_false, pre173 p0, fun173 p0, Wd_len, e3, List.length_replicate, List.drop_replicate, Nat.sub_self]
  rw [List.take_of_length_le (by rw [Wd_len]; exact Nat.le_refl _), List.replicate_zero, List.append_nil, trim_dg (by decide) l hl.1]
  rfl
theorem T145_eq {x y : Nat} (hx : x < (2 ^ 64) ^ 5000) (h : y ≤ x) : T145 (Dw x, Dw y, ()) = some (Dw (x - y), 0, ()) := by
  show t145 S1174.pre S1174.F S1146.pre S1146.F S144.pre S144.F S146.pre S146.F S173.pre S173.F S174.pre S174.F (Dw x) (Dw y) = _
  unfold t145
  have hy : y < (2 ^ 64) ^ 5000 := Nat.lt_of_le_of_lt h hx
  have p0 := T144_eq hx hy
  have p1 := T1146_eq (dg (2 ^ 64) x) (Dw_ws hx)
  rw [nv_Dw] at p1
  have p1 : T1146 (Dw x, ()) = some (Dw x, ()) := p1
  have p2 := T173_dw hy
  have z1 : decide ((if x = y then (0 : Int) else if x < y then -1 else 1) < 0) = false := by
    by_cases he : x = y
    · rw [if_pos he]; rfl
    · rw [if_neg he, if_neg (by omega)]; rfl
  have hX := Dw_ws hx
  have hY := Dw_ws hy
  have hlx := hX.2
  have p3 : T1174 (Dw x, Dw y, ()) = some (Dw (x - y), ()) := by
    show t1174 S1173.pre S1173.F S157.pre S157.F S173.pre S173.F W1174_3 (Dw x) (Dw y) = _
    unfold t1174
    have hw := W1174_eq (dg (2 ^ 64) x) (dg (2 ^ 64) y) hX.1 hY.1 hlx (dg_len_mono (by decide) h) (by rw [nv_Dw, nv_Dw]; exact h)
    rw [nv_Dw, nv_Dw] at hw
    have q1 := T1173_eq (pd (2 ^ 64) (dg (2 ^ 64) x).length (x - y)) (by rw [pd_len]; exact hlx)
    have hlt := dg_len_gt (B := 2 ^ 64) (by decide) x
    rw [trim_dg (by decide) _ (pd_lt (by decide) _ _), pd_nv (by decide) _ _ (by omega)] at q1
    rw [show (Dw x).length = (dg (2 ^ 64) x).length from Wd_len _]
    rw [show W1174_3 ((((dg (2 ^ 64) x).length : Int), (Dw y, ((0 : Int), ((0 : Int), ((), ()))))), (Dw x, ())) = _ from hw]
    show (bif S1173.pre (Wd (pd (2 ^ 64) (dg (2 ^ 64) x).length (x - y)), ()) then some (S1173.F (Wd (pd (2 ^ 64) (dg (2 ^ 64) x).length (x - y)), ())) else none) = _
    simp only [pre1173 q1, fun1173 q1, cond_true]
    rfl
  simp only [pre144 p0, fun144 p0, cond_true, z1, cond_false, pre1146 p1, fun1146 p1, pre173 p2, fun173 p2, pre1174 p3, fun1174 p3]
/-- a dyad brought to an odd number -/
def od (s : Bool) (n : Nat) (e : Int) : Bool × Nat × Int := if n = 0 then (false, 0, 0) else (s, n / 2 ^ tz n, e + tz n)
def dyO (t : Bool × Nat × Int) : Dya := dy t.1 t.2.1 t.2.2
theorem od_dy (s : Bool) (n : Nat) (e : Int) : (if n = 0 then dy false 0 0 else dy s (n / 2 ^ tz n) (e + tz n)) = dyO (od s n e) := by
  unfold od dyO
  split <;> rfl
theorem od_cases (s : Bool) (n : Nat) (e : Int) : (od s n e = (false, 0, 0) ∧ n = 0) ∨ ((od s n e).1 = s ∧ (od s n e).2.1 % 2 = 1 ∧ n ≠ 0 ∧ n = 2 ^ tz n * (od s n e).2.1 ∧ (od s n e).2.2 = e + tz n) := by
  unfold od
  by_cases h : n = 0
  · rw [if_pos h]; exact .inl ⟨rfl, h⟩
  · right
    rw [if_neg h]
    obtain ⟨k, hk⟩ := tz_split h
    have hd : n / 2 ^ tz n = 2 * k + 1 := by
      have := Nat.mul_div_cancel_left (2 * k + 1) (Nat.two_pow_pos (tz n))
      rw [← hk] at this
      exact this
    dsimp only
    rw [hd]
    exact ⟨rfl, by omega, h, hk, rfl⟩
theorem tz_le {n k : Nat} (h : n < 2 ^ k) (h0 : n ≠ 0) : tz n < k := by
  obtain ⟨j, hj⟩ := tz_split h0
  have h1 : 2 ^ tz n * 1 ≤ 2 ^ tz n * (2 * j + 1) := Nat.mul_le_mul_left _ (by omega)
  exact (Nat.pow_lt_pow_iff_right (a := 2) (by decide)).1 (by omega)
theorem od_bound (s : Bool) {n k : Nat} (e : Int) (hn : n < 2 ^ k) (he : -20000 ≤ e ∧ e ≤ 20000) : (od s n e).2.1 < 2 ^ k ∧ -20000 ≤ (od s n e).2.2 ∧ (od s n e).2.2 ≤ 20000 + k := by
  rcases od_cases s n e with ⟨h, _⟩ | ⟨_, h2, h3, h4, h5⟩
  · rw [h]; exact ⟨Nat.two_pow_pos _, by dsimp only; omega, by dsimp only; omega⟩
  · have hle : (od s n e).2.1 ≤ n := by
      have := Nat.le_mul_of_pos_left (od s n e).2.1 (Nat.two_pow_pos (tz n))
      omega
    have := tz_le hn h3
    refine ⟨by omega, by omega, by omega⟩
theorem big_lt {n k : Nat} (h : n < 2 ^ k) (hk : k ≤ 64 * 2000) : n < (2 ^ 64) ^ 2000 := by
  rw [pow64]
  exact Nat.lt_of_lt_of_le h (Nat.pow_le_pow_right (by decide) hk)
theorem dy_len {n k : Nat} (h : n < 2 ^ k) (hk : k ≤ 64 * 1000) : (Dw n).length ≤ 1000 := by
  unfold Dw; rw [Wd_len]
  refine dg_len_le (by decide) _ _ ?_
  rw [pow64]
  exact Nat.lt_of_lt_of_le h (Nat.pow_le_pow_right (by decide) hk)
theorem T103_ok (s : Bool) {n k : Nat} (h : n < 2 ^ k) (hk : k ≤ 64 * 1000) (e : Int) (he : -40000 ≤ e ∧ e ≤ 40000) : T103 (dy s n e, ()) = some (0, ()) := by
  show t103 (s, Dw n, e, ()) = _
  unfold t103
  have := dy_len h hk
  dsimp only
  rw [decide_eq_false (p := ((Dw n).length : Int) > 1024) (by omega), decide_eq_false (p := e < -40000) (by omega), decide_eq_false (p := e > 40000) (by omega)]
  rfl
theorem T104_ok (s : Bool) {n : Nat} (h : n < 2 ^ 6000) (e : Int) (he : -20000 ≤ e ∧ e ≤ 20000) : T104 (dy s n e, ()) = some (dyO (od s n e), 0, ()) := by
  show t104 S100.pre S100.F (s, Dw n, e, ()) = _
  unfold t104
  have p0 := T100_dy s (lt5000 (big_lt h (by decide))) e (by omega)
  rw [od_dy] at p0
  have p0 : T100 ((s, Dw n, e, ()), ()) = some (dyO (od s n e), ()) := p0
  have hb := od_bound s e h he
  have hl := dy_len hb.1 (by decide)
  have e1 : decide ((((dyO (od s n e)).2.1.length : Nat) : Int) > 1024) = false := decide_eq_false (by
    show ¬ ((((Dw (od s n e).2.1).length : Nat) : Int) > 1024)
    omega)
  have e2 : decide ((dyO (od s n e)).2.2.1 < -40000) = false := decide_eq_false (by
    show ¬ ((od s n e).2.2 < -40000)
    omega)
  have e3 : decide ((dyO (od s n e)).2.2.1 > 40000) = false := decide_eq_false (by
    show ¬ ((od s n e).2.2 > 40000)
    omega)
  simp only [pre100 p0, fun100 p0, cond_true, e1, e2, e3, cond_false, Bool.or_self]
theorem T143_dw {x y : Nat} (hx : x < (2 ^ 64) ^ 5000) (hy : y < (2 ^ 64) ^ 5000) : T143 (Dw x, Dw y, ()) = some (Dw (x + y), ()) := by
  have h1 : (dg (2 ^ 64) x).length ≤ 5000 := dg_len_le (by decide) _ _ hx
  have h2 : (dg (2 ^ 64) y).length ≤ 5000 := dg_len_le (by decide) _ _ hy
  have := T143_eq (dg (2 ^ 64) x) (dg (2 ^ 64) y) (Dw_ws hx) (Dw_ws hy) (by rw [dg_trim (by decide)]; omega) (by rw [dg_trim (by decide)]; omega)
  rw [nv_Dw, nv_Dw] at this
  exact this
end VL
namespace VL
open Go Vx
theorem Dw_small {x : Nat} (h0 : x ≠ 0) (h : x < 2 ^ 64) : Dw x = (x : Int) :: [] := by
  unfold Dw
  rw [dg_pos (by decide) (by omega), Nat.mod_eq_of_lt h, Nat.div_eq_of_lt h, dg_zero]; rfl
theorem T40_fin {f : Int} {a : Nat} (h : chk f a = 0) (hfin : eF f a ≠ fullF f) : T40 (f, (a : Int), ()) = some (dyO (od (sF f a) (mant f a) (xpn f a)), 0, ()) := by
  obtain ⟨hf, h0⟩ := chk_zero h
  have ha := pat_lt h
  show t40 S66.pre S66.F S90.pre S90.F S91.pre S91.F S92.pre S92.F f a = _
  unfold t40
  have h1 := fP_ge hf
  have h2 := fP_lt hf
  have h3 := fW_le hf
  have h4 := fX_le hf
  have h5 := fP_le hf
  have h6 := fX_ge hf
  have hE := eF_lt hf a
  have hM := mF_lt f a
  have hPp : 2 ^ (fP f - 1) ≤ 2 ^ 52 := Nat.pow_le_pow_right (by decide) (by omega)
  have hpp := Nat.two_pow_pos (fP f - 1)
  have p0 := T66_eq f a ha
  have p1 := T91_eq (fW f - fP f) (by omega)
  have p2 := T90_eq hf a ha
  have hr1 : decide (0 ≤ f) = true := decide_eq_true hf.1
  have hr2 : decide (f < ((4 : Nat) : Int)) = true := decide_eq_true hf.2
  have r1 : (rowOf f).1 = (fW f : Int) := rfl
  have r2 : (rowOf f).2.1 = (fP f : Int) := rfl
  have r3 : (rowOf f).2.2.1 = 1 - (fX f : Int) := rfl
  have e1 : IntKind.wrap .i64 ((fW f : Int) - (fP f : Int)) = ((fW f - fP f : Nat) : Int) := wsubn _ _ (by omega)
  have e2 : IntKind.wrap .i64 ((fP f : Int) - 1) = ((fP f - 1 : Nat) : Int) := wsub1 _ (by omega)
  have e3 : shlI .u64 1 ((fP f - 1 : Nat) : Int) = ((2 ^ (fP f - 1) : Nat) : Int) := shlI_one (by omega)
  have e4 : orI .u64 (mF f a : Int) ((2 ^ (fP f - 1) : Nat) : Int) = ((mF f a + 2 ^ (fP f - 1) : Nat) : Int) := by
    have := orN (a := mF f a) (b := 1) (k := fP f - 1) hM (by omega)
    rwa [Nat.one_mul] at this
  have hfl : (((eF f a : Nat) : Int) == ((2 ^ (fW f - fP f) - 1 : Nat) : Int)) = false := by
    rw [nbeq]; exact beq_eq_false_iff_ne.2 hfin
  have ew : ∀ z : Int, -1000000 ≤ z ∧ z ≤ 1000000 → IntKind.wrap .i64 z = z := fun z hz => wrapI (by omega)
  simp only [row_at hf, r1, r2, r3, hr1, hr2, pre66 p0, fun66 p0, pre90 p2, fun90 p2, h, cond_true, bne_self_eq_false, cond_false, e1, e2, e3, e4, pre91 p1, fun91 p1, hfl, nnn]
  by_cases hz : eF f a = 0
  · have hg : (((eF f a : Nat) : Int) == 0) = true := beq0_t _ hz
    have hm : mant f a = mF f a := by unfold mant; rw [if_pos hz]
    have hx : xpn f a = 1 - (fX f : Int) - (fP f : Int) + 1 := by unfold xpn; rw [if_pos hz, Int.add_zero]
    rw [hg, cond_true, hm, hx]
    by_cases hm0 : mF f a = 0
    · rw [beq0_t _ hm0, cond_true]
      unfold od dyO
      rw [if_pos hm0, dy_zero]
    · obtain ⟨k, hk⟩ := tz_split hm0
      have htl := tz_le (n := mF f a) (k := 53) (by omega) hm0
      have p3 := T92_eq (t := tz (mF f a)) (k := k) (by omega)
      rw [← hk] at p3
      have hq : mF f a / 2 ^ tz (mF f a) ≠ 0 := by
        have := Nat.mul_div_cancel_left (2 * k + 1) (Nat.two_pow_pos (tz (mF f a)))
        rw [← hk] at this
        omega
      have hql := Nat.div_le_self (mF f a) (2 ^ tz (mF f a))
      rw [beq0_f _ hm0, cond_false]
      simp only [pre92 p3, fun92 p3, cond_true, nnn, shrN (mF f a) (tz (mF f a)) (by omega)]
      rw [← Dw_small hq (by omega)]
      unfold od dyO dy
      rw [if_neg hm0]
      rw [ew 1 (by omega), ew (1 - 1) (by omega), ew (1 - 1 + _) (by omega), ew (1 - 1 + _ - _) (by omega), ew (1 - 1 + _ - _ + 1) (by omega), ew _ (by omega)]
      rw [show (1 : Int) - 1 + (1 - (fX f : Int)) - (fP f : Int) + 1 + (tz (mF f a) : Int) = 1 - (fX f : Int) - (fP f : Int) + 1 + (tz (mF f a) : Int) by omega]
  · have hg : (((eF f a : Nat) : Int) == 0) = false := beq0_f _ hz
    have hm : mant f a = mF f a + 2 ^ (fP f - 1) := by unfold mant; rw [if_neg hz]
    have hx : xpn f a = 1 - (fX f : Int) - (fP f : Int) + 1 + ((eF f a : Int) - 1) := by unfold xpn; rw [if_neg hz]
    rw [hg, cond_false, hm, hx]
    have hm0 : mF f a + 2 ^ (fP f - 1) ≠ 0 := by omega
    have hml : mF f a + 2 ^ (fP f - 1) < 2 ^ 54 := by omega
    generalize mF f a + 2 ^ (fP f - 1) = n at *
    obtain ⟨k, hk⟩ := tz_split hm0
    have htl := tz_le hml hm0
    have p3 := T92_eq (t := tz n) (k := k) (by rw [← hk]; omega)
    rw [← hk] at p3
    have hq : n / 2 ^ tz n ≠ 0 := by
      have := Nat.mul_div_cancel_left (2 * k + 1) (Nat.two_pow_pos (tz n))
      rw [← hk] at this
      omega
    have hql := Nat.div_le_self n (2 ^ tz n)
    rw [beq0_f _ hm0, cond_false]
    simp only [pre92 p3, fun92 p3, cond_true, nnn, shrN n (tz n) (by omega)]
    rw [← Dw_small hq (by omega)]
    unfold od dyO dy
    rw [if_neg hm0]
    rw [ew (eF f a : Int) (by omega), ew ((eF f a : Int) - 1) (by omega), ew ((eF f a : Int) - 1 + _) (by omega), ew ((eF f a : Int) - 1 + _ - _) (by omega), ew ((eF f a : Int) - 1 + _ - _ + 1) (by omega), ew _ (by omega)]
    rw [show (eF f a : Int) - 1 + (1 - (fX f : Int)) - (fP f : Int) + 1 + (tz n : Int) = 1 - (fX f : Int) - (fP f : Int) + 1 + ((eF f a : Int) - 1) + (tz n : Int) by omega]
theorem T50_fin {f : Int} {a : Nat} (h : chk f a = 0) (hfin : eF f a ≠ fullF f) : T50 (f, (a : Int), ()) = some (dyO (od (sF f a) (mant f a) (xpn f a)), ()) := by
  show t50 S40.pre S40.F f a = _
  unfold t50
  have p0 := T40_fin h hfin
  simp only [pre40 p0, fun40 p0, cond_true]
end VL
namespace VL
open Go Vx
theorem qm_neg {f : Int} (hf : Fm f) : qm f ≤ 0 := by
  have := fX_ge hf
  have := fP_ge hf
  unfold qm; omega
theorem vI_zero (f : Int) (s : Bool) (e : Int) : vI f s 0 e = 0 := by
  unfold vI; rw [Nat.zero_mul]; cases s <;> rfl
theorem vI_od {f : Int} (hf : Fm f) (s : Bool) (n : Nat) {e : Int} (he : qm f ≤ e) : qm f ≤ (od s n e).2.2 ∧ vI f (od s n e).1 (od s n e).2.1 (od s n e).2.2 = vI f s n e := by
  rcases od_cases s n e with ⟨h, h0⟩ | ⟨h1, h2, h3, h4, h5⟩
  · rw [h, h0, vI_zero, vI_zero]
    exact ⟨qm_neg hf, rfl⟩
  · refine ⟨by omega, ?_⟩
    have e1 : (od s n e).2.1 * 2 ^ ((od s n e).2.2 - qm f).toNat = n * 2 ^ (e - qm f).toNat := by
      rw [h5, show (e + (tz n : Int) - qm f).toNat = tz n + (e - qm f).toNat by omega, Nat.pow_add, ← Nat.mul_assoc, Nat.mul_comm _ (2 ^ tz n), ← h4]
    unfold vI
    rw [e1, h1]
theorem sumD_val {f : Int} (nx : Bool) (X : Nat) (ex : Int) (ny : Bool) (Y : Nat) (ey : Int) (hx : qm f ≤ ex) (hy : qm f ≤ ey) :
    qm f ≤ (sumD nx X ex ny Y ey).2.2 ∧ vI f (sumD nx X ex ny Y ey).1 (sumD nx X ex ny Y ey).2.1 (sumD nx X ex ny Y ey).2.2 = vI f nx X ex + vI f ny Y ey := by
  by_cases h1 : X = 0
  · subst h1
    unfold sumD
    rw [if_pos rfl, vI_zero, Int.zero_add]
    exact ⟨hy, rfl⟩
  by_cases h2 : Y = 0
  · subst h2
    unfold sumD
    rw [if_neg h1, if_pos rfl, vI_zero, Int.add_zero]
    exact ⟨hx, rfl⟩
  obtain ⟨e, he⟩ : ∃ e, (if ey < ex then ey else ex) = e := ⟨_, rfl⟩
  have he2 : e ≤ ex ∧ e ≤ ey ∧ qm f ≤ e := by rw [← he]; split <;> omega
  obtain ⟨a, ha⟩ : ∃ a, X * 2 ^ (ex - e).toNat = a := ⟨_, rfl⟩
  obtain ⟨b, hb⟩ : ∃ b, Y * 2 ^ (ey - e).toNat = b := ⟨_, rfl⟩
  have hD : sumD nx X ex ny Y ey = if nx = ny then (nx, a + b, e) else if b ≤ a then (nx, a - b, e) else (ny, b - a, e) := by
    unfold sumD
    rw [if_neg h1, if_neg h2]
    simp only [he, ha, hb]
  have hA : X * 2 ^ (ex - qm f).toNat = a * 2 ^ (e - qm f).toNat := by
    rw [← ha, Nat.mul_assoc, ← Nat.pow_add]; congr 2; omega
  have hB : Y * 2 ^ (ey - qm f).toNat = b * 2 ^ (e - qm f).toNat := by
    rw [← hb, Nat.mul_assoc, ← Nat.pow_add]; congr 2; omega
  have hsum := Nat.add_mul a b (2 ^ (e - qm f).toNat)
  have hd1 := Nat.sub_mul a b (2 ^ (e - qm f).toNat)
  have hd2 := Nat.sub_mul b a (2 ^ (e - qm f).toNat)
  rw [hD]
  unfold vI
  rw [hA, hB]
  by_cases hn : nx = ny
  · subst hn
    rw [if_pos rfl]
    refine ⟨he2.2.2, ?_⟩
    dsimp only
    rw [hsum]
    cases nx <;> simp only [cond_true, cond_false] <;> omega
  · have hny : ny = !nx := by cases nx <;> cases ny <;> first | rfl | exact absurd rfl hn
    subst hny
    rw [if_neg hn]
    by_cases hle : b ≤ a
    · have := Nat.mul_le_mul_right (2 ^ (e - qm f).toNat) hle
      rw [if_pos hle]
      refine ⟨he2.2.2, ?_⟩
      dsimp only
      rw [hd1]
      cases nx <;> simp only [cond_true, cond_false, Bool.not_true, Bool.not_false] <;> omega
    · have := Nat.mul_le_mul_right (2 ^ (e - qm f).toNat) (show a ≤ b by omega)
      rw [if_neg hle]
      refine ⟨he2.2.2, ?_⟩
      dsimp only
      rw [hd2]
      cases nx <;> simp only [cond_true, cond_false, Bool.not_true, Bool.not_false] <;> omega
theorem T47_eq (s : Bool) {n : Nat} (hn : n < (2 ^ 64) ^ 5000) (e : Int) : T47 (dy s n e, ()) = some (if n = 0 then 0 else if s = true then -1 else 1, ()) := by
  show t47 S102.pre S102.F (s, Dw n, e, ()) = _
  unfold t47
  have p0 := T102_eq (dg (2 ^ 64) n) (Dw_ws hn)
  rw [nv_Dw] at p0
  have p0 : T102 (Dw n, ()) = some (Dw n, ()) := p0
  dsimp only
  simp only [pre102 p0, fun102 p0, cond_true]
  by_cases h : n = 0
  · rw [if_pos h, h, Dw_zero]; rfl
  · have hlen : (((Dw n).length : Int) == 0) = false := beq0_f _ (by have := Dw_len h; omega)
    rw [if_neg h, hlen, cond_false]
    cases s <;> rfl
theorem T51_eq {f m : Int} (hf : Fm f) (hm : 0 ≤ m ∧ m ≤ 5) (s : Bool) {n : Nat} (hn : n < 2 ^ 6000) (h0 : n ≠ 0) (hodd : n % 2 = 1) (e : Int) (he : -20000 ≤ e ∧ e ≤ 20000) :
    T51 (f, m, dy s n e, ()) = some (((rndN f m s n e false).1 : Int), ((rndN f m s n e false).2 : Int), 0, ()) := by
  show t51 S105.pre S105.F S106.pre S106.F S107.pre S107.F f m (s, Dw n, e, ()) = _
  unfold t51
  have p0 := T105_ok hf hm
  have q1 := T103_ok s hn (by decide) e (by omega)
  have q2 := T104_ok s hn e he
  have hod : od s n e = (s, n, e) := by
    obtain ⟨k, rfl⟩ : ∃ k, n = 2 * k + 1 := ⟨n / 2, by omega⟩
    unfold od
    rw [if_neg (by omega), tz_odd, Nat.pow_zero, Nat.div_one, Int.natCast_zero, Int.add_zero]
  rw [hod] at q2
  have p1 : T106 ((s, Dw n, e, ()), ()) = some ((s, Dw n, e, ()), 0, ()) := by
    show t106 S103.pre S103.F S104.pre S104.F (s, Dw n, e, ()) = _
    unfold t106
    have q1 : T103 ((s, Dw n, e, ()), ()) = some (0, ()) := q1
    have q2 : T104 ((s, Dw n, e, ()), ()) = some ((s, Dw n, e, ()), 0, ()) := q2
    simp only [pre103 q1, fun103 q1, pre104 q2, fun104 q2, cond_true, bne_self_eq_false, cond_false]
  have p2 := T107_eq s n e false f m hf (big_lt hn (by decide)) (by omega)
  have hlen : (((Dw n).length : Int) == 0) = false := beq0_f _ (by have := Dw_len h0; omega)
  simp only [pre105 p0, fun105 p0, cond_true, bne_self_eq_false, cond_false, pre106 p1, fun106 p1, hlen, pre107 p2, fun107 p2]
end VL
namespace VL
open Go Vx
/-- the dyad of a whole number of least steps -/
def cd (f : Int) (S : Int) : Dya := dyO (od (decide (S < 0)) S.natAbs (qm f))
theorem tz_mul {n : Nat} (h : n ≠ 0) (d : Nat) : tz (n * 2 ^ d) = tz n + d := by
  obtain ⟨k, hk⟩ := tz_split h
  have e : n * 2 ^ d = 2 ^ (tz n + d) * (2 * k + 1) := by
    rw [Nat.pow_add, Nat.mul_assoc, Nat.mul_comm (2 ^ d), ← Nat.mul_assoc, ← hk]
  rw [e]; exact tz_of _ _
theorem cd_of {f : Int} (s : Bool) (n : Nat) {e : Int} (he : qm f ≤ e) : dyO (od s n e) = cd f (vI f s n e) := by
  unfold cd
  congr 1
  by_cases h0 : n = 0
  · subst h0
    rw [vI_zero]; rfl
  · have hp := Nat.two_pow_pos (e - qm f).toNat
    have hpos : 0 < n * 2 ^ (e - qm f).toNat := Nat.mul_pos (by omega) hp
    have hs : decide (vI f s n e < 0) = s := by
      unfold vI
      generalize n * 2 ^ (e - qm f).toNat = N at *
      cases s <;> simp only [cond_true, cond_false]
      · exact decide_eq_false (by omega)
      · exact decide_eq_true (by omega)
    have hn : (vI f s n e).natAbs = n * 2 ^ (e - qm f).toNat := by
      unfold vI
      cases s
      · exact Int.natAbs_natCast _
      · exact (Int.natAbs_neg _).trans (Int.natAbs_natCast _)
    rw [hs, hn]
    unfold od
    rw [if_neg h0, if_neg (by omega), tz_mul h0]
    have hd : n * 2 ^ (e - qm f).toNat / 2 ^ (tz n + (e - qm f).toNat) = n / 2 ^ tz n := by
      rw [Nat.pow_add, Nat.mul_div_mul_right _ _ hp]
    rw [hd]
    congr 2
    omega
/-- bounds that the additions keep -/
def Bd (f : Int) (n : Nat) (e : Int) : Prop := qm f ≤ e ∧ e ≤ 6000 ∧ n * 2 ^ (e - qm f).toNat < 2 ^ 5000
theorem qm_ge {f : Int} (hf : Fm f) : -1100 ≤ qm f := by
  have := fX_le hf
  have := fP_le hf
  unfold qm; omega
theorem Bd.lt {f : Int} {n : Nat} {e : Int} (h : Bd f n e) : n < 2 ^ 5000 := by
  have := Nat.le_mul_of_pos_right n (Nat.two_pow_pos (e - qm f).toNat)
  exact Nat.lt_of_le_of_lt this h.2.2
theorem Bd.od {f : Int} (hf : Fm f) {n : Nat} {e : Int} (s : Bool) (h : Bd f n e) : Bd f (VL.od s n e).2.1 (VL.od s n e).2.2 := by
  rcases od_cases s n e with ⟨hz, _⟩ | ⟨_, h2, h3, h4, h5⟩
  · rw [hz]
    exact ⟨qm_neg hf, by dsimp only; omega, by dsimp only; rw [Nat.zero_mul]; exact Nat.two_pow_pos _⟩
  · have hle : 2 ^ (tz n + (e - qm f).toNat) ≤ n * 2 ^ (e - qm f).toNat := by
      rw [Nat.pow_add]
      refine Nat.mul_le_mul_right _ ?_
      have := Nat.le_mul_of_pos_right (2 ^ tz n) (show 0 < (VL.od s n e).2.1 by omega)
      omega
    have hlt := (Nat.pow_lt_pow_iff_right (a := 2) (by decide)).1 (Nat.lt_of_le_of_lt hle h.2.2)
    have hq := qm_neg hf
    have h1 := h.1
    refine ⟨by omega, by omega, ?_⟩
    have e1 : (VL.od s n e).2.1 * 2 ^ ((VL.od s n e).2.2 - qm f).toNat = n * 2 ^ (e - qm f).toNat := by
      rw [h5, show (e + (tz n : Int) - qm f).toNat = tz n + (e - qm f).toNat by omega, Nat.pow_add, ← Nat.mul_assoc, Nat.mul_comm _ (2 ^ tz n), ← h4]
    rw [e1]; exact h.2.2
theorem T142_bd {f : Int} (hf : Fm f) (s : Bool) (X : Nat) (ex : Int) (s' : Bool) (Y : Nat) (ey : Int) (hX : Bd f X ex) (hY : Bd f Y ey) :
    T142 (dy s X ex, dy s' Y ey, ()) = some (Dw (X * 2 ^ (ex - (if ey < ex then ey else ex)).toNat), Dw (Y * 2 ^ (ey - (if ey < ex then ey else ex)).toNat), (if ey < ex then ey else ex), ()) := by
  show t142 S172.pre S172.F (s, Dw X, ex, ()) (s', Dw Y, ey, ()) = _
  unfold t142
  have hq := qm_ge hf
  have x1 := hX.1
  have x2 := hX.2.1
  have y1 := hY.1
  have y2 := hY.2.1
  have he : (if ey < ex then ey else ex) ≤ ex ∧ (if ey < ex then ey else ex) ≤ ey ∧ qm f ≤ (if ey < ex then ey else ex) := by split <;> omega
  dsimp only
  generalize (if ey < ex then ey else ex) = e at *
  obtain ⟨d1, hd1⟩ := Int.eq_ofNat_of_zero_le (show 0 ≤ ex - e by omega)
  obtain ⟨d2, hd2⟩ := Int.eq_ofNat_of_zero_le (show 0 ≤ ey - e by omega)
  have p1 := T172_eq (lt5000 (big_lt hX.lt (by decide))) d1 (by omega)
  have p2 := T172_eq (lt5000 (big_lt hY.lt (by decide))) d2 (by omega)
  have e1 : IntKind.wrap .i64 (d1 : Int) = (d1 : Int) := wrapI (by omega)
  have e2 : IntKind.wrap .i64 (d2 : Int) = (d2 : Int) := wrapI (by omega)
  simp only [hd1, hd2, e1, e2, pre172 p1, fun172 p1, pre172 p2, fun172 p2, cond_true, Int.toNat_natCast]
theorem Bd.sft {f : Int} {X : Nat} {ex e : Int} (h : Bd f X ex) (h1 : e ≤ ex) (h2 : qm f ≤ e) : X * 2 ^ (ex - e).toNat < 2 ^ 5000 := by
  have e1 : X * 2 ^ (ex - qm f).toNat = X * 2 ^ (ex - e).toNat * 2 ^ (e - qm f).toNat := by
    rw [Nat.mul_assoc, ← Nat.pow_add]; congr 2; omega
  have := Nat.le_mul_of_pos_right (X * 2 ^ (ex - e).toNat) (Nat.two_pow_pos (e - qm f).toNat)
  rw [← e1] at this
  exact Nat.lt_of_le_of_lt this h.2.2
/-- the sum as it stands: exact, and canonical where two numbers that aren't zero were added -/
theorem dbl2 (k : Nat) : (2 : Nat) ^ k + 2 ^ k = 2 ^ (k + 1) := by rw [Nat.pow_succ]; omega
theorem T101_bd {f : Int} (hf : Fm f) (nx : Bool) (X : Nat) (ex : Int) (ny : Bool) (Y : Nat) (ey : Int) (hX : Bd f X ex) (hY : Bd f Y ey) :
    ∃ s n e, T101 (dy nx X ex, dy ny Y ey, ()) = some (dy s n e, ()) ∧ qm f ≤ e ∧ e ≤ 12000 ∧ n < 2 ^ 5001 ∧ vI f s n e = vI f nx X ex + vI f ny Y ey := by
  have hq := qm_ge hf
  have hq2 := qm_neg hf
  have x1 := hX.1
  have x2 := hX.2.1
  have y1 := hY.1
  have y2 := hY.2.1
  have big : (2 : Nat) ^ 5000 + 2 ^ 5000 = 2 ^ 5001 := dbl2 5000
  have sv := sumD_val (f := f) nx X ex ny Y ey x1 y1
  by_cases h1 : X = 0
  · refine ⟨ny, Y, ey, ?_, y1, by omega, by have := hY.lt; omega, by rw [h1, vI_zero, Int.zero_add]⟩
    show t101 S142.pre S142.F S143.pre S143.F S144.pre S144.F S145.pre S145.F S100.pre S100.F (nx, Dw X, ex, ()) (ny, Dw Y, ey, ()) = _
    unfold t101
    rw [h1, Dw_zero]; rfl
  have l1 : (((Dw X).length : Int) == 0) = false := beq0_f _ (by have := Dw_len h1; omega)
  by_cases h2 : Y = 0
  · refine ⟨nx, X, ex, ?_, x1, by omega, by have := hX.lt; omega, by rw [h2, vI_zero, Int.add_zero]⟩
    show t101 S142.pre S142.F S143.pre S143.F S144.pre S144.F S145.pre S145.F S100.pre S100.F (nx, Dw X, ex, ()) (ny, Dw Y, ey, ()) = _
    unfold t101
    dsimp only
    rw [l1, cond_false, h2, Dw_zero]; rfl
  have l2 : (((Dw Y).length : Int) == 0) = false := beq0_f _ (by have := Dw_len h2; omega)
  have p0 := T142_bd hf nx X ex ny Y ey hX hY
  have p0 : T142 ((nx, Dw X, ex, ()), (ny, Dw Y, ey, ()), ()) = _ := p0
  obtain ⟨e, he⟩ : ∃ e, (if ey < ex then ey else ex) = e := ⟨_, rfl⟩
  have he2 : e ≤ ex ∧ e ≤ ey ∧ qm f ≤ e := by rw [← he]; split <;> omega
  obtain ⟨a, haa⟩ : ∃ a, X * 2 ^ (ex - e).toNat = a := ⟨_, rfl⟩
  obtain ⟨b, hbb⟩ : ∃ b, Y * 2 ^ (ey - e).toNat = b := ⟨_, rfl⟩
  have k1 := hX.sft he2.1 he2.2.2
  have k2 := hY.sft he2.2.1 he2.2.2
  rw [he, haa, hbb] at p0
  rw [haa] at k1
  rw [hbb] at k2
  have hD : sumD nx X ex ny Y ey = if nx = ny then (nx, a + b, e) else if b ≤ a then (nx, a - b, e) else (ny, b - a, e) := by
    unfold sumD
    rw [if_neg h1, if_neg h2]
    simp only [he, haa, hbb]
  have hDn : (sumD nx X ex ny Y ey).2.1 < 2 ^ 5001 ∧ (sumD nx X ex ny Y ey).2.2 = e := by
    rw [hD]
    split
    · exact ⟨by dsimp only; omega, rfl⟩
    · split
      · exact ⟨by dsimp only; omega, rfl⟩
      · exact ⟨by dsimp only; omega, rfl⟩
  have key : T101 (dy nx X ex, dy ny Y ey, ()) = some (dyO (od (sumD nx X ex ny Y ey).1 (sumD nx X ex ny Y ey).2.1 (sumD nx X ex ny Y ey).2.2), ()) := by
    show t101 S142.pre S142.F S143.pre S143.F S144.pre S144.F S145.pre S145.F S100.pre S100.F (nx, Dw X, ex, ()) (ny, Dw Y, ey, ()) = _
    unfold t101
    dsimp only
    rw [l1, cond_false, l2, cond_false, hD]
    have b1 := lt5000 (big_lt k1 (by decide))
    have b2 := lt5000 (big_lt k2 (by decide))
    have k3 : a + b < 2 ^ 5001 := by omega
    have b3 := lt5000 (big_lt k3 (by decide))
    simp only [pre142 p0, fun142 p0, cond_true]
    by_cases hn : nx = ny
    · subst hn
      have : (nx == nx) = true := by cases nx <;> rfl
      rw [this, cond_true, if_pos rfl]
      have p1 := T143_dw b1 b2
      have p2 := T100_dy nx b3 e (by omega)
      rw [od_dy] at p2
      have p2 : T100 ((nx, Dw (a + b), e, ()), ()) = _ := p2
      simp only [pre143 p1, fun143 p1, pre100 p2, fun100 p2, cond_true]
    · have : (nx == ny) = false := by cases nx <;> cases ny <;> first | rfl | exact absurd rfl hn
      rw [this, cond_false, if_neg hn]
      have p1 := T144_eq b1 b2
      by_cases hle : b ≤ a
      · have p2 := T145_eq b1 hle
        have p3 := T100_dy nx (n := a - b) (by omega) e (by omega)
        rw [od_dy] at p3
        have p3 : T100 ((nx, Dw (a - b), e, ()), ()) = _ := p3
        have z : decide ((if a = b then (0 : Int) else if a < b then -1 else 1) < 0) = false := by
          by_cases hab : a = b
          · rw [if_pos hab]; rfl
          · rw [if_neg hab, if_neg (by omega)]; rfl
        simp only [pre144 p1, fun144 p1, cond_true, z, cond_false, pre145 p2, fun145 p2, pre100 p3, fun100 p3, if_pos hle]
      · have p2 := T145_eq b2 (y := a) (by omega)
        have p3 := T100_dy ny (n := b - a) (by omega) e (by omega)
        rw [od_dy] at p3
        have p3 : T100 ((ny, Dw (b - a), e, ()), ()) = _ := p3
        have z : decide ((if a = b then (0 : Int) else if a < b then -1 else 1) < 0) = true := by
          rw [if_neg (by omega), if_pos (by omega)]; rfl
        simp only [pre144 p1, fun144 p1, cond_true, z, pre145 p2, fun145 p2, pre100 p3, fun100 p3, if_neg hle]
  have ov := vI_od hf (sumD nx X ex ny Y ey).1 (sumD nx X ex ny Y ey).2.1 sv.1
  refine ⟨_, _, _, key, ov.1, ?_, ?_, ov.2.trans sv.2⟩
  · rcases od_cases (sumD nx X ex ny Y ey).1 (sumD nx X ex ny Y ey).2.1 (sumD nx X ex ny Y ey).2.2 with ⟨hz, _⟩ | ⟨_, q2, q3, q4, q5⟩
    · rw [hz]; dsimp only; omega
    · have := tz_le hDn.1 q3
      have := hDn.2
      omega
  · rcases od_cases (sumD nx X ex ny Y ey).1 (sumD nx X ex ny Y ey).2.1 (sumD nx X ex ny Y ey).2.2 with ⟨hz, _⟩ | ⟨_, q2, q3, q4, q5⟩
    · rw [hz]; exact Nat.two_pow_pos _
    · have hle := Nat.le_mul_of_pos_left (od (sumD nx X ex ny Y ey).1 (sumD nx X ex ny Y ey).2.1 (sumD nx X ex ny Y ey).2.2).2.1 (Nat.two_pow_pos (tz (sumD nx X ex ny Y ey).2.1))
      have := hDn.1
      omega
theorem T103_bd {f : Int} (hf : Fm f) (s : Bool) {n : Nat} {e : Int} (h : Bd f n e) : T103 (dy s n e, ()) = some (0, ()) := by
  have := qm_ge hf
  have h1 := h.1
  have h2 := h.2.1
  exact T103_ok s h.lt (by decide) e (by omega)
theorem T99_bd {f : Int} (hf : Fm f) (s : Bool) {n : Nat} {e : Int} (s' : Bool) {n' : Nat} {e' : Int} (h : Bd f n e) (h' : Bd f n' e') : T99 (dy s n e, dy s' n' e', ()) = some (0, ()) := by
  have q1 := T103_bd hf s h
  have q2 := T103_bd hf s' h'
  show t99 S103.pre S103.F (dy s n e) (dy s' n' e') = _
  unfold t99
  have q1 : T103 (((dy s n e).1, (dy s n e).2), ()) = some (0, ()) := q1
  have q2 : T103 (((dy s' n' e').1, (dy s' n' e').2), ()) = some (0, ()) := q2
  simp only [pre103 q1, fun103 q1, pre103 q2, fun103 q2, cond_true, bne_self_eq_false, cond_false]
theorem T100_bd {f : Int} (hf : Fm f) (s : Bool) {n : Nat} {e : Int} (h : Bd f n e) : T100 (dy s n e, ()) = some (dyO (od s n e), ()) := by
  have := qm_ge hf
  have h1 := h.1
  have h2 := h.2.1
  have p := T100_dy s (lt5000 (big_lt h.lt (by decide))) e (by omega)
  rwa [od_dy] at p
theorem T104_cd {f : Int} (hf : Fm f) (s : Bool) {n : Nat} {e : Int} (h1 : qm f ≤ e) (h2 : e ≤ 12000) (hn : n < 2 ^ 5001) : T104 (dy s n e, ()) = some (cd f (vI f s n e), 0, ()) := by
  have := qm_ge hf
  have big : (2 : Nat) ^ 5001 ≤ 2 ^ 6000 := Nat.pow_le_pow_right (by decide) (by decide)
  have p := T104_ok s (Nat.lt_of_lt_of_le hn big) e (by omega)
  rwa [cd_of s n h1] at p
/-- Add -/
theorem T49_cd {f : Int} (hf : Fm f) (s1 : Bool) {n1 : Nat} {e1 : Int} (s2 : Bool) {n2 : Nat} {e2 : Int} (h1 : Bd f n1 e1) (h2 : Bd f n2 e2) :
    T49 (dy s1 n1 e1, dy s2 n2 e2, ()) = some (cd f (vI f s1 n1 e1 + vI f s2 n2 e2), 0, ()) := by
  show t49 S99.pre S99.F S100.pre S100.F S101.pre S101.F S104.pre S104.F (dy s1 n1 e1) (dy s2 n2 e2) = _
  unfold t49
  have p99 := T99_bd hf s1 s2 h1 h2
  have i1 := T100_bd hf s1 h1
  have i2 := T100_bd hf s2 h2
  have v1 := vI_od hf s1 n1 h1.1
  have v2 := vI_od hf s2 n2 h2.1
  obtain ⟨s, n, e, p101, g1, g2, g3, g4⟩ := T101_bd hf (od s1 n1 e1).1 (od s1 n1 e1).2.1 (od s1 n1 e1).2.2 (od s2 n2 e2).1 (od s2 n2 e2).2.1 (od s2 n2 e2).2.2 (h1.od hf s1) (h2.od hf s2)
  rw [v1.2, v2.2] at g4
  have p104 := T104_cd hf s g1 g2 g3
  rw [g4] at p104
  have p99 : T99 (((dy s1 n1 e1).1, (dy s1 n1 e1).2), ((dy s2 n2 e2).1, (dy s2 n2 e2).2), ()) = some (0, ()) := p99
  have i1 : T100 (((dy s1 n1 e1).1, (dy s1 n1 e1).2), ()) = some (dyO (od s1 n1 e1), ()) := i1
  have i2 : T100 (((dy s2 n2 e2).1, (dy s2 n2 e2).2), ()) = some (dyO (od s2 n2 e2), ()) := i2
  have p101 : T101 (dyO (od s1 n1 e1), dyO (od s2 n2 e2), ()) = some (dy s n e, ()) := p101
  simp only [pre99 p99, fun99 p99, pre100 i1, fun100 i1, pre100 i2, fun100 i2, pre101 p101, fun101 p101, pre104 p104, fun104 p104, cond_true, bne_self_eq_false, cond_false]
theorem vI_not (f : Int) (s : Bool) (n : Nat) (e : Int) : vI f (!s) n e = -vI f s n e := by
  unfold vI; cases s <;> simp
/-- Sub -/
theorem T44_cd {f : Int} (hf : Fm f) (s1 : Bool) {n1 : Nat} {e1 : Int} (s2 : Bool) {n2 : Nat} {e2 : Int} (h1 : Bd f n1 e1) (h2 : Bd f n2 e2) :
    T44 (dy s1 n1 e1, dy s2 n2 e2, ()) = some (cd f (vI f s1 n1 e1 - vI f s2 n2 e2), 0, ()) := by
  show t44 S49.pre S49.F (dy s1 n1 e1) (dy s2 n2 e2) = _
  unfold t44
  have p := T49_cd hf s1 (!s2) h1 h2
  rw [vI_not, ← Int.sub_eq_add_neg] at p
  have p : T49 (((dy s1 n1 e1).1, (dy s1 n1 e1).2), (!(dy s2 n2 e2).1, (dy s2 n2 e2).2), ()) = _ := p
  simp only [pre49 p, fun49 p, cond_true]
theorem sign_val {f : Int} (s : Bool) (n : Nat) (e : Int) : (if n = 0 then (0 : Int) else if s = true then -1 else 1) = (if vI f s n e = 0 then 0 else if vI f s n e < 0 then -1 else 1) := by
  by_cases h : n = 0
  · subst h
    rw [vI_zero, if_pos rfl, if_pos rfl]
  · have hpos := Nat.mul_pos (show 0 < n by omega) (Nat.two_pow_pos (e - qm f).toNat)
    rw [if_neg h]
    unfold vI
    generalize n * 2 ^ (e - qm f).toNat = N at *
    cases s <;> simp only [cond_true, cond_false]
    · rw [if_neg (by simp), if_neg (by omega), if_neg (by omega)]
    · rw [if_pos trivial, if_neg (by omega), if_pos (by omega)]
/-- Cmp -/
theorem T46_cd {f : Int} (hf : Fm f) (s1 : Bool) {n1 : Nat} {e1 : Int} (s2 : Bool) {n2 : Nat} {e2 : Int} (h1 : Bd f n1 e1) (h2 : Bd f n2 e2) :
    T46 (dy s1 n1 e1, dy s2 n2 e2, ()) = some ((if vI f s1 n1 e1 = vI f s2 n2 e2 then 0 else if vI f s1 n1 e1 < vI f s2 n2 e2 then -1 else 1), 0, ()) := by
  show t46 S99.pre S99.F S100.pre S100.F S101.pre S101.F S47.pre S47.F (dy s1 n1 e1) (dy s2 n2 e2) = _
  unfold t46
  have p99 := T99_bd hf s1 s2 h1 h2
  have i1 := T100_bd hf s1 h1
  have i2 := T100_bd hf s2 h2
  have v1 := vI_od hf s1 n1 h1.1
  have v2 := vI_od hf s2 n2 h2.1
  obtain ⟨s, n, e, p101, g1, g2, g3, g4⟩ := T101_bd hf (od s1 n1 e1).1 (od s1 n1 e1).2.1 (od s1 n1 e1).2.2 (!(od s2 n2 e2).1) (od s2 n2 e2).2.1 (od s2 n2 e2).2.2 (h1.od hf s1) (h2.od hf s2)
  rw [vI_not, v1.2, v2.2] at g4
  have p47 := T47_eq s (lt5000 (big_lt g3 (by decide))) e
  rw [sign_val (f := f), g4] at p47
  have p99 : T99 (((dy s1 n1 e1).1, (dy s1 n1 e1).2), ((dy s2 n2 e2).1, (dy s2 n2 e2).2), ()) = some (0, ()) := p99
  have i1 : T100 (((dy s1 n1 e1).1, (dy s1 n1 e1).2), ()) = some (dyO (od s1 n1 e1), ()) := i1
  have i2 : T100 (((dy s2 n2 e2).1, (dy s2 n2 e2).2), ()) = some (dyO (od s2 n2 e2), ()) := i2
  have p101 : T101 (dyO (od s1 n1 e1), (!(dyO (od s2 n2 e2)).1, (dyO (od s2 n2 e2)).2), ()) = some (dy s n e, ()) := p101
  simp only [pre99 p99, fun99 p99, pre100 i1, fun100 i1, pre100 i2, fun100 i2, pre101 p101, fun101 p101, pre47 p47, fun47 p47, cond_true, bne_self_eq_false, cond_false]
  congr 2
  by_cases hA : vI f s1 n1 e1 = vI f s2 n2 e2
  · rw [if_pos hA, if_pos (by omega)]
  · rw [if_neg hA, if_neg (by omega)]
    by_cases hB : vI f s1 n1 e1 < vI f s2 n2 e2
    · rw [if_pos hB, if_pos (by omega)]
    · rw [if_neg hB, if_neg (by omega)]
/-- a canonical dyad's parts -/
theorem cd_parts {f : Int} (hf : Fm f) {S : Int} (h : S.natAbs < 2 ^ 5000) : ∃ s n e, cd f S = dy s n e ∧ Bd f n e ∧ vI f s n e = S := by
  have hb : Bd f S.natAbs (qm f) := ⟨Int.le_refl _, by have := qm_neg hf; omega, by rw [Int.sub_self]; simpa using h⟩
  refine ⟨_, _, _, rfl, hb.od hf _, ?_⟩
  rw [(vI_od hf (decide (S < 0)) S.natAbs (Int.le_refl (qm f))).2]
  unfold vI
  rw [Int.sub_self]
  by_cases hS : S < 0
  · rw [decide_eq_true hS]; simp; omega
  · rw [decide_eq_false hS]; simp; omega
theorem sub_cd {f : Int} (hf : Fm f) {S T : Int} (h1 : S.natAbs < 2 ^ 5000) (h2 : T.natAbs < 2 ^ 5000) : T44 (cd f S, cd f T, ()) = some (cd f (S - T), 0, ()) := by
  obtain ⟨s, n, e, a1, a2, a3⟩ := cd_parts hf h1
  obtain ⟨s', n', e', b1, b2, b3⟩ := cd_parts hf h2
  rw [a1, b1, T44_cd hf s s' a2 b2, a3, b3]
theorem cmp_cd {f : Int} (hf : Fm f) {S T : Int} (h1 : S.natAbs < 2 ^ 5000) (h2 : T.natAbs < 2 ^ 5000) : T46 (cd f S, cd f T, ()) = some ((if S = T then 0 else if S < T then -1 else 1), 0, ()) := by
  obtain ⟨s, n, e, a1, a2, a3⟩ := cd_parts hf h1
  obtain ⟨s', n', e', b1, b2, b3⟩ := cd_parts hf h2
  rw [a1, b1, T46_cd hf s s' a2 b2, a3, b3]
theorem val_cd {f : Int} {a : Nat} (h : chk f a = 0) (hfin : eF f a ≠ fullF f) : T40 (f, (a : Int), ()) = some (cd f (vA f a), 0, ()) ∧ T50 (f, (a : Int), ()) = some (cd f (vA f a), ()) := by
  have h1 := T40_fin h hfin
  have h2 := T50_fin h hfin
  rw [cd_of _ _ (xpn_ge f a)] at h1 h2
  exact ⟨h1, h2⟩
end VL
namespace VL
open Go Vx
theorem sft_bound {f : Int} (hf : Fm f) (a : Nat) : (xpn f a - qm f).toNat ≤ 2047 := by
  have h1 := eF_lt hf a
  unfold xpn qm
  split <;> omega
theorem vA_abs (f : Int) (a : Nat) : (vA f a).natAbs = mant f a * 2 ^ (xpn f a - qm f).toNat := by
  unfold vA vI
  cases sF f a
  · exact Int.natAbs_natCast _
  · exact (Int.natAbs_neg _).trans (Int.natAbs_natCast _)
theorem vA_bound {f : Int} (hf : Fm f) (a : Nat) : (vA f a).natAbs < 2 ^ 2100 := by
  rw [vA_abs]
  have h1 : mant f a * 2 ^ (xpn f a - qm f).toNat < 2 ^ 53 * 2 ^ (xpn f a - qm f).toNat := Nat.mul_lt_mul_of_pos_right (mant_lt hf a) (Nat.two_pow_pos _)
  rw [← Nat.pow_add] at h1
  have := sft_bound hf a
  exact Nat.lt_of_lt_of_le h1 (Nat.pow_le_pow_right (by decide) (by omega))
/-- a pattern's magnitude, of a whole number of least steps that is a number of the format -/
def magX (f : Int) (n : Nat) : Nat := if n < 2 ^ fP f then n else (blen n - fP f) * 2 ^ (fP f - 1) + n / 2 ^ (blen n - fP f)
theorem mu_exact {f m : Int} (s : Bool) {n : Nat} (hex : ¬ n < 2 ^ fP f → n % 2 ^ (blen n - fP f) = 0) : muM f m s n = magX f n := by
  unfold muM magX
  by_cases h : n < 2 ^ fP f
  · rw [if_pos h, if_pos h]
  · rw [if_neg h, if_neg h]
    unfold cutJ
    rw [hex h, if_neg (fun hh => hh.1 rfl)]
theorem rnd_exact {f : Int} (hf : Fm f) (m : Int) (s : Bool) {n : Nat} (h0 : n ≠ 0) (hex : ¬ n < 2 ^ fP f → n % 2 ^ (blen n - fP f) = 0) (hlt : magX f n < infF f) : rndM f m s n (qm f) = (magX f n, 0) := by
  rw [rndM_mu hf m s h0, mu_exact s hex, if_neg (by omega)]
  by_cases h : n < 2 ^ fP f
  · rw [if_pos h]
  · rw [if_neg h, hex h]; rfl
theorem val_magX {f : Int} (hf : Fm f) (s : Bool) {n : Nat} (hex : ¬ n < 2 ^ fP f → n % 2 ^ (blen n - fP f) = 0) (hlt : magX f n < infF f) :
    chk f (mkF f s (magX f n)) = 0 ∧ eF f (mkF f s (magX f n)) ≠ fullF f ∧ vA f (mkF f s (magX f n)) = bif s then -(n : Int) else n := by
  have hw := Nat.lt_trans hlt (infF_lt hf)
  have hpp := Nat.two_pow_pos (fP f - 1)
  have h2p := two_P hf
  have he : eF f (mkF f s (magX f n)) = magX f n / 2 ^ (fP f - 1) := by rw [eF_abs hf, mk_abs s hw]
  have hm : mF f (mkF f s (magX f n)) = magX f n % 2 ^ (fP f - 1) := by rw [mF_abs hf, mk_abs s hw]
  have hs := mk_sgn s hw
  refine ⟨mk_chk hf s hw, ?_, ?_⟩
  · rw [he]
    have : magX f n / 2 ^ (fP f - 1) < fullF f := by
      rw [Nat.div_lt_iff_lt_mul hpp, Nat.mul_comm]; exact hlt
    omega
  · have key : mant f (mkF f s (magX f n)) * 2 ^ (xpn f (mkF f s (magX f n)) - qm f).toNat = n := by
      unfold mant xpn
      rw [he, hm]
      have hqd : qm f = 1 - (fX f : Int) - (fP f : Int) + 1 := rfl
      by_cases h : n < 2 ^ fP f
      · have hmag : magX f n = n := by unfold magX; rw [if_pos h]
        rw [hmag]
        rcases Nat.lt_or_ge n (2 ^ (fP f - 1)) with h1 | h1
        · rw [Nat.div_eq_of_lt h1, if_pos rfl, if_pos rfl, Nat.mod_eq_of_lt h1, Int.add_zero, ← hqd, Int.sub_self]; simp
        · have hd : n / 2 ^ (fP f - 1) = 1 := by
            have e : n = (n - 2 ^ (fP f - 1)) + 2 ^ (fP f - 1) * 1 := by omega
            rw [e, Nat.add_mul_div_left _ _ hpp, Nat.div_eq_of_lt (by omega)]
          have hmd := Nat.div_add_mod n (2 ^ (fP f - 1))
          rw [hd] at hmd ⊢
          rw [if_neg (by decide), if_neg (by decide), ← hqd, show (qm f + (((1 : Nat) : Int) - 1) - qm f).toNat = 0 by omega, Nat.pow_zero, Nat.mul_one]
          omega
      · obtain ⟨hj1, hq1, hq2⟩ := quo_bound hf h
        have hex' := hex h
        have hmag : magX f n = (blen n - fP f) * 2 ^ (fP f - 1) + n / 2 ^ (blen n - fP f) := by unfold magX; rw [if_neg h]
        have hdm := Nat.div_add_mod n (2 ^ (blen n - fP f))
        rw [hmag]
        generalize blen n - fP f = j at *
        generalize n / 2 ^ j = Q at *
        have e : j * 2 ^ (fP f - 1) + Q = (Q - 2 ^ (fP f - 1)) + 2 ^ (fP f - 1) * (j + 1) := by rw [Nat.mul_add, Nat.mul_one, Nat.mul_comm j]; omega
        have hd : (j * 2 ^ (fP f - 1) + Q) / 2 ^ (fP f - 1) = j + 1 := by
          rw [e, Nat.add_mul_div_left _ _ hpp, Nat.div_eq_of_lt (by omega), Nat.zero_add]
        have hr : (j * 2 ^ (fP f - 1) + Q) % 2 ^ (fP f - 1) = Q - 2 ^ (fP f - 1) := by
          rw [e, Nat.add_mul_mod_self_left, Nat.mod_eq_of_lt (by omega)]
        rw [hd, hr, if_neg (by omega), if_neg (by omega), ← hqd, show (qm f + (((j + 1 : Nat) : Int) - 1) - qm f).toNat = j by omega, Nat.sub_add_cancel (by omega), Nat.mul_comm]
        omega
    unfold vA vI
    rw [key, hs]
theorem blen_mul {N k P : Nat} (h : N < 2 ^ P) : N * 2 ^ k < 2 ^ (P + k) := by
  rw [Nat.pow_add]; exact Nat.mul_lt_mul_of_pos_right h (Nat.two_pow_pos k)
/-- a multiple of 2^k of few digits is exact -/
theorem exact_of {f : Int} {n N k : Nat} (hn : n = N * 2 ^ k) (hN : N < 2 ^ fP f) : ¬ n < 2 ^ fP f → n % 2 ^ (blen n - fP f) = 0 := fun _ => by
  have hb := blen_bound (n := n) (k := fP f + k) (by rw [hn]; exact blen_mul hN)
  obtain ⟨d, hd⟩ : ∃ d, k = d + (blen n - fP f) := ⟨k - (blen n - fP f), by omega⟩
  have e : n = N * 2 ^ d * 2 ^ (blen n - fP f) := by
    rw [Nat.mul_assoc, ← Nat.pow_add, ← hd]; exact hn
  have := Nat.mul_mod_left (N * 2 ^ d) (2 ^ (blen n - fP f))
  rw [← e] at this
  exact this
end VL
namespace VL
open Go Vx
/-- a fact that omega doesn't look into -/
structure Hid (p : Prop) : Prop where
  out : p
end VL
