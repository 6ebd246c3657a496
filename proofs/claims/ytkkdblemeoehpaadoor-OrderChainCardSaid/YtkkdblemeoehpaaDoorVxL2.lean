/- The formats, and what the functions of layer 4 and their document's answers are. -/
import Derived.Test.YtkkdblemeoehpaaDoorVxL1
import Derived.Test.YtkkdblemeoehpaaDoorVxS1
namespace VL
open Go Vx

def Fm (f : Int) : Prop := 0 ≤ f ∧ f < 4
instance (f : Int) : Decidable (Fm f) := by unfold Fm; infer_instance
def fW (f : Int) : Nat := if f = 0 then 16 else if f = 1 then 16 else if f = 2 then 32 else 64
def fP (f : Int) : Nat := if f = 0 then 11 else if f = 1 then 8 else if f = 2 then 24 else 53
def fX (f : Int) : Nat := if f = 0 then 15 else if f = 1 then 127 else if f = 2 then 127 else 1023
def rowOf (f : Int) : Den rowsSh := ((fW f : Int), ((fP f : Int), ((1 - (fX f : Int)), ((fX f : Int), ()))))

theorem Fm_cases {f : Int} (h : Fm f) : f = 0 ∨ f = 1 ∨ f = 2 ∨ f = 3 := by
  obtain ⟨h1, h2⟩ := h
  omega

theorem row_at {f : Int} (h : Fm f) (d : Den rowsSh) : k_rows.getD (Int.toNat f) d = rowOf f := by
  rcases Fm_cases h with rfl | rfl | rfl | rfl <;> rfl

theorem fP_ge {f : Int} (h : Fm f) : 8 ≤ fP f := by
  rcases Fm_cases h with rfl | rfl | rfl | rfl <;> decide
theorem fP_lt {f : Int} (h : Fm f) : fP f + 5 ≤ fW f := by
  rcases Fm_cases h with rfl | rfl | rfl | rfl <;> decide
theorem fW_le {f : Int} (h : Fm f) : fW f ≤ 64 := by
  rcases Fm_cases h with rfl | rfl | rfl | rfl <;> decide
theorem fX_le {f : Int} (h : Fm f) : fX f ≤ 1023 := by
  rcases Fm_cases h with rfl | rfl | rfl | rfl <;> decide
theorem fX_eq {f : Int} (h : Fm f) : 2 * fX f + 1 = 2 ^ (fW f - fP f) - 1 := by
  rcases Fm_cases h with rfl | rfl | rfl | rfl <;> decide

theorem wrapI {n : Int} (h : -9223372036854775808 ≤ n ∧ n < 9223372036854775808) : IntKind.wrap .i64 n = n := IntWalk.i64_in n ⟨h.1, by omega⟩
theorem wrapU {n : Int} (h : 0 ≤ n ∧ n < 18446744073709551616) : IntKind.wrap .u64 n = n := IntWalk.u64_in n ⟨h.1, by omega⟩

theorem shrN (a n : Nat) (hn : n ≤ 64) : shrI .u64 (a : Int) (n : Int) = ((a / 2 ^ n : Nat) : Int) := by
  rw [shrI_u64 n hn]
  simp

theorem wsub (m n : Nat) (h : n ≤ m) (hm : m ≤ 4611686018427387904) : IntKind.wrap .i64 ((m : Int) - (n : Int)) = ((m - n : Nat) : Int) := by
  rw [wrapI (by omega)]
  omega

theorem nbeq (m n : Nat) : ((m : Int) == (n : Int)) = (m == n) := by
  rw [Bool.eq_iff_iff]; simp only [beq_iff_eq]; omega
theorem nbeq0 (m : Nat) : ((m : Int) == 0) = (m == 0) := nbeq m 0
theorem nbne (m n : Nat) : ((m : Int) != (n : Int)) = (m != n) := by
  show (!((m : Int) == (n : Int))) = !(m == n)
  rw [nbeq]
theorem nbne0 (m : Nat) : ((m : Int) != 0) = (m != 0) := nbne m 0
theorem nlt (m n : Nat) : (decide ((m : Int) < (n : Int))) = decide (m < n) := by
  rw [Bool.eq_iff_iff]; simp
theorem nnn (m : Nat) : (decide (0 ≤ (m : Int))) = true := by simp

/-- a pattern's error -/
def chk (f : Int) (a : Nat) : Int := if Fm f then (if a < 2 ^ fW f then 0 else 4) else 2
def eF (f : Int) (a : Nat) : Nat := a / 2 ^ (fP f - 1) % 2 ^ (fW f - fP f)
def mF (f : Int) (a : Nat) : Nat := a % 2 ^ (fP f - 1)
def sF (f : Int) (a : Nat) : Bool := a / 2 ^ (fW f - 1) != 0
def fullF (f : Int) : Nat := 2 ^ (fW f - fP f) - 1
def absF (f : Int) (a : Nat) : Nat := a % 2 ^ (fW f - 1)

theorem T69_ok {f : Int} (h : Fm f) : T69 (f, ()) = some (rowOf f, 0, ()) := by
  rcases Fm_cases h with rfl | rfl | rfl | rfl <;> kernel_rfl

theorem T69_bad {f : Int} (h : ¬ Fm f) : T69 (f, ()) = some ((0, 0, 0, 0, ()), 2, ()) := by
  show t69 f = _
  unfold t69
  have : (decide (f < (0 : Int)) || decide (f ≥ (4 : Int))) = true := by
    simp only [Fm] at h
    simp only [Bool.or_eq_true, decide_eq_true_eq]
    omega
  rw [this]
  rfl

theorem chk_bad {f : Int} (h : ¬ Fm f) (a : Nat) : chk f a = 2 := by unfold chk; rw [if_neg h]
theorem chk_ok {f : Int} (h : Fm f) {a : Nat} (ha : a < 2 ^ fW f) : chk f a = 0 := by unfold chk; rw [if_pos h, if_pos ha]
theorem chk_big {f : Int} (h : Fm f) {a : Nat} (ha : ¬ a < 2 ^ fW f) : chk f a = 4 := by unfold chk; rw [if_pos h, if_neg ha]
theorem chk_zero {f : Int} {a : Nat} (h : chk f a = 0) : Fm f ∧ a < 2 ^ fW f := by
  unfold chk at h
  split at h
  · split at h
    · exact ⟨by assumption, by assumption⟩
    · cases h
  · cases h

theorem div_ne_zero {a n : Nat} : (a / 2 ^ n != 0) = decide (2 ^ n ≤ a) := by
  rw [Bool.eq_iff_iff]
  simp [Nat.div_eq_zero_iff, Nat.two_pow_pos]

theorem T66_eq (f : Int) (a : Nat) (ha : a < 2 ^ 64) : T66 (f, (a : Int), ()) = some (chk f a, ()) := by
  show t66 S69.pre S69.F f a = _
  unfold t66
  by_cases hf : Fm f
  · simp only [pre69 (T69_ok hf), fun69 (T69_ok hf), cond_true, rowOf, nnn, Bool.true_or]
    rw [shrN _ _ (fW_le hf), nbne0, div_ne_zero]
    show (bif decide ((fW f : Int) < ((64 : Nat) : Int)) && _ then _ else _) = _
    rw [nlt]
    have hw := fW_le hf
    by_cases h : a < 2 ^ fW f
    · have : (decide (fW f < 64) && decide (2 ^ fW f ≤ a)) = false := by simp; intro _; exact h
      rw [this, chk_ok hf h]; rfl
    · have : (decide (fW f < 64) && decide (2 ^ fW f ≤ a)) = true := by
        simp only [Bool.and_eq_true, decide_eq_true_eq]
        refine ⟨?_, by omega⟩
        rcases Nat.lt_or_ge (fW f) 64 with h1 | h1
        · exact h1
        · have : fW f = 64 := by omega
          rw [this] at h; omega
      rw [this, chk_big hf h]; rfl
  · simp only [pre69 (T69_bad hf), fun69 (T69_bad hf), cond_true, chk_bad hf]
    rfl

theorem T91_eq (n : Nat) (hn : n ≤ 63) : T91 ((n : Int), ()) = some (((2 ^ n - 1 : Nat) : Int), ()) := by
  show t91 n = _
  unfold t91
  have h2 : 2 ^ n ≤ 2 ^ 63 := Nat.pow_le_pow_right (by omega) hn
  have h1 : 0 < 2 ^ n := Nat.two_pow_pos n
  rw [nnn, cond_true, shlI_one hn]
  generalize 2 ^ n = c at *
  rw [wrapU (by omega)]
  have : (c : Int) - 1 = ((c - 1 : Nat) : Int) := by omega
  rw [this]

theorem T90_eq {f : Int} (hf : Fm f) (a : Nat) (ha : a < 2 ^ 64) : T90 (rowOf f, (a : Int), ()) = some (sF f a, (eF f a : Int), (mF f a : Int), ()) := by
  show t90 S91.pre S91.F (rowOf f) a = _
  unfold t90
  have h1 := fP_ge hf
  have h2 := fP_lt hf
  have h3 := fW_le hf
  have e1 : IntKind.wrap .i64 ((rowOf f).1 - 1) = ((fW f - 1 : Nat) : Int) := wsub (fW f) 1 (by omega) (by omega)
  have e2 : IntKind.wrap .i64 ((rowOf f).2.1 - 1) = ((fP f - 1 : Nat) : Int) := wsub (fP f) 1 (by omega) (by omega)
  have e3 : IntKind.wrap .i64 ((rowOf f).1 - (rowOf f).2.1) = ((fW f - fP f : Nat) : Int) := wsub (fW f) (fP f) (by omega) (by omega)
  have p1 := T91_eq (fW f - fP f) (by omega)
  have p2 := T91_eq (fP f - 1) (by omega)
  rw [e1, e2, e3]
  simp only [nnn, cond_true, pre91 p1, pre91 p2, fun91 p1, fun91 p2]
  rw [shrN _ _ (by omega), shrN _ _ (by omega), andI_mask (Nat.lt_of_le_of_lt (Nat.div_le_self _ _) ha) (by omega), andI_mask ha (by omega), nbne0]
  rfl

/-- a pattern's class -/
def cls (f : Int) (a : Nat) : Int :=
  bif eF f a == fullF f && mF f a == 0 then (bif sF f a then 2 else 9)
  else bif eF f a == fullF f && mF f a / 2 ^ (fP f - 2) != 0 then 1
  else bif eF f a == fullF f then 0
  else bif eF f a == 0 && mF f a == 0 then (bif sF f a then 5 else 6)
  else bif eF f a == 0 then (bif sF f a then 4 else 7)
  else (bif sF f a then 3 else 8)

theorem bif_some {A : Type} (c : Bool) (x y : A) : (bif c then some x else some y) = some (bif c then x else y) := by cases c <;> rfl

theorem T65_ok {f : Int} {a : Nat} (ha : a < 2 ^ 64) (h : chk f a = 0) : T65 (f, (a : Int), ()) = some (cls f a, 0, ()) := by
  obtain ⟨hf, h0⟩ := chk_zero h
  show t65 S66.pre S66.F S90.pre S90.F S91.pre S91.F f a = _
  unfold t65
  have h1 := fP_ge hf
  have h2 := fP_lt hf
  have h3 := fW_le hf
  have e3 : IntKind.wrap .i64 ((rowOf f).1 - (rowOf f).2.1) = ((fW f - fP f : Nat) : Int) := wsub (fW f) (fP f) (by omega) (by omega)
  have e4 : IntKind.wrap .i64 ((rowOf f).2.1 - 2) = ((fP f - 2 : Nat) : Int) := wsub (fP f) 2 (by omega) (by omega)
  have p0 := T66_eq f a ha
  have p1 := T91_eq (fW f - fP f) (by omega)
  have p2 := T90_eq hf a ha
  have hr : (decide (0 ≤ f) && decide (f < ((4 : Nat) : Int))) = true := by
    simp only [Bool.and_eq_true, decide_eq_true_eq]; exact hf
  simp only [row_at hf, e3, e4, hr, pre66 p0, fun66 p0, pre91 p1, fun91 p1, pre90 p2, fun90 p2, h, cond_true, nnn, Bool.true_or, bne_self_eq_false, cond_false]
  rw [shrN _ _ (by omega), nbeq, nbeq0, nbeq0, nbne0]
  unfold cls fullF
  generalize (eF f a == 2 ^ (fW f - fP f) - 1) = b1
  generalize (mF f a == 0) = b2
  generalize (mF f a / 2 ^ (fP f - 2) != 0) = b3
  generalize (eF f a == 0) = b4
  generalize sF f a = b5
  cases b1 <;> cases b2 <;> cases b3 <;> cases b4 <;> cases b5 <;> rfl

theorem T65_bad {f : Int} {a : Nat} (ha : a < 2 ^ 64) (h : chk f a ≠ 0) : T65 (f, (a : Int), ()) = some (0, chk f a, ()) := by
  show t65 S66.pre S66.F S90.pre S90.F S91.pre S91.F f a = _
  unfold t65
  have p0 := T66_eq f a ha
  have : (chk f a != 0) = true := by simpa using h
  simp only [pre66 p0, fun66 p0, this, cond_true]

theorem T115_ok {f : Int} (hf : Fm f) : T115 (f, ()) = some (((2 ^ (fW f - 1) : Nat) : Int), ()) := by
  rcases Fm_cases hf with rfl | rfl | rfl | rfl <;> kernel_rfl

theorem T112_ok {f : Int} {a : Nat} (ha : a < 2 ^ 64) (h : chk f a = 0) : T112 (f, (a : Int), ()) = some ((absF f a : Int), 0, ()) := by
  obtain ⟨hf, h0⟩ := chk_zero h
  show t112 S66.pre S66.F S115.pre S115.F f a = _
  unfold t112
  have h2 := fP_lt hf
  have h3 := fW_le hf
  have p0 := T66_eq f a ha
  have p1 := T115_ok hf
  simp only [pre66 p0, fun66 p0, pre115 p1, fun115 p1, h, cond_true, bne_self_eq_false, cond_false]
  rw [andNotI_bit (by omega) (by rw [Nat.sub_add_cancel (by omega)]; exact h0)]
  rfl

/-- where a number stands among the patterns -/
def place (f : Int) (a : Nat) : Int := bif sF f a then -(absF f a : Int) else absF f a

theorem abs_lt (f : Int) (hf : Fm f) (a : Nat) : absF f a < 2 ^ 63 := by
  have h3 := fW_le hf
  exact Nat.lt_of_lt_of_le (Nat.mod_lt _ (Nat.two_pow_pos _)) (Nat.pow_le_pow_right (by omega) (by omega))

theorem abs_ne {f : Int} (a : Nat) : ((absF f a : Int) != (a : Int)) = sF f a := by
  rw [nbne]
  unfold absF sF
  rw [div_ne_zero, Bool.eq_iff_iff]
  simp only [bne_iff_ne, ne_eq, decide_eq_true_eq]
  constructor
  · intro h
    rcases Nat.lt_or_ge a (2 ^ (fW f - 1)) with h1 | h1
    · exact absurd (Nat.mod_eq_of_lt h1) h
    · exact h1
  · intro h h1
    have := Nat.mod_lt a (Nat.two_pow_pos (fW f - 1))
    omega

theorem T82_ok {f : Int} {a : Nat} (ha : a < 2 ^ 64) (h : chk f a = 0) : T82 (f, (a : Int), ()) = some ((cls f a, place f a, ()), 0, ()) := by
  show t82 S65.pre S65.F S112.pre S112.F f a = _
  unfold t82
  have hl := abs_lt f (chk_zero h).1 a
  have p0 := T65_ok ha h
  have p1 := T112_ok ha h
  simp only [pre65 p0, fun65 p0, pre112 p1, fun112 p1, cond_true, bne_self_eq_false, cond_false, abs_ne]
  rw [wrapI (n := (absF f a : Int)) (by omega), wrapI (by omega)]
  unfold place
  cases sF f a
  · rfl
  · simp

theorem T82_bad {f : Int} {a : Nat} (ha : a < 2 ^ 64) (h : chk f a ≠ 0) : T82 (f, (a : Int), ()) = some ((0, 0, ()), chk f a, ()) := by
  show t82 S65.pre S65.F S112.pre S112.F f a = _
  unfold t82
  have p0 := T65_bad ha h
  have : (chk f a != 0) = true := by simpa using h
  simp only [pre65 p0, fun65 p0, this, cond_true]

/-- the error of two patterns -/
def chk2 (f : Int) (a b : Nat) : Int := if chk f a = 0 then chk f b else chk f a

theorem T52_ok {f : Int} {a b : Nat} (ha : a < 2 ^ 64) (hb : b < 2 ^ 64) (h : chk f a = 0) (h' : chk f b = 0) : T52 (f, (a : Int), (b : Int), ()) = some ((cls f a, place f a, ()), (cls f b, place f b, ()), 0, ()) := by
  show t52 S82.pre S82.F f a b = _
  unfold t52
  have p0 := T82_ok ha h
  have p1 := T82_ok hb h'
  simp only [pre82 p0, fun82 p0, pre82 p1, fun82 p1, cond_true, bne_self_eq_false, cond_false]

theorem T52_bad {f : Int} {a b : Nat} (ha : a < 2 ^ 64) (hb : b < 2 ^ 64) (h : chk2 f a b ≠ 0) : ∃ x y, T52 (f, (a : Int), (b : Int), ()) = some (x, y, chk2 f a b, ()) := by
  show ∃ x y, t52 S82.pre S82.F f a b = _
  unfold t52
  unfold chk2 at h ⊢
  split at h
  · rename_i h0
    have p0 := T82_ok ha h0
    have p1 := T82_bad hb h
    refine ⟨(cls f a, place f a, ()), (0, 0, ()), ?_⟩
    simp only [pre82 p0, fun82 p0, pre82 p1, fun82 p1, cond_true, bne_self_eq_false, cond_false, if_pos h0]
  · rename_i h0
    have p0 := T82_bad ha h0
    have : (chk f a != 0) = true := by simpa using h
    refine ⟨(0, 0, ()), (0, 0, ()), ?_⟩
    simp only [pre82 p0, fun82 p0, cond_true, this, if_neg h0]

/-- not a number; a signalling one -/
def nan (f : Int) (a : Nat) : Bool := eF f a == fullF f && mF f a != 0
def snan (f : Int) (a : Nat) : Bool := nan f a && mF f a / 2 ^ (fP f - 2) == 0

theorem cls_nan (f : Int) (a : Nat) : (cls f a == 1 || cls f a == 0) = nan f a := by
  unfold cls nan
  simp only [bne]
  cases eF f a == fullF f <;> cases mF f a == 0 <;> cases sF f a <;> cases eF f a == 0 <;> cases mF f a / 2 ^ (fP f - 2) == 0 <;> rfl

theorem cls_snan (f : Int) (a : Nat) : (cls f a == 0) = snan f a := by
  unfold cls snan nan
  simp only [bne]
  cases eF f a == fullF f <;> cases hm : mF f a == 0 <;> cases sF f a <;> cases eF f a == 0 <;> cases mF f a / 2 ^ (fP f - 2) == 0 <;> rfl

/-- how a stands to b, what is raised, the error -/
def cmpF (f : Int) (a b : Nat) (signal : Bool) : Int × Int × Int × Unit :=
  if chk2 f a b ≠ 0 then (0, 0, chk2 f a b, ())
  else bif nan f a || nan f b then (3, (bif signal then 1 else bif snan f a || snan f b then 1 else 0), 0, ())
  else if place f a < place f b then (0, 0, 0, ())
  else if place f a > place f b then (2, 0, 0, ())
  else (1, 0, 0, ())

theorem chk2_zero {f : Int} {a b : Nat} (h : chk2 f a b = 0) : chk f a = 0 ∧ chk f b = 0 := by
  unfold chk2 at h
  split at h
  · exact ⟨by assumption, h⟩
  · exact absurd h (by assumption)

theorem T53_eq (x : Den (.pair (.int .i64) (.pair (.int .i64) .unit))) : T53 (x, ()) = some ((x.1 == 1 || x.1 == 0), ()) := rfl
theorem T54_eq (x y : Den (.pair (.int .i64) (.pair (.int .i64) .unit))) : T54 (x, y, ()) = some ((bif x.1 == 0 || y.1 == 0 then 1 else 0), ()) := by
  show t54 x y = _
  unfold t54
  cases (x.1 == (0 : Int) || y.1 == (0 : Int)) <;> rfl

theorem T14_eq {f : Int} {a b : Nat} (ha : a < 2 ^ 64) (hb : b < 2 ^ 64) (s : Bool) : T14 (f, (a : Int), (b : Int), s, ()) = some (cmpF f a b s) := by
  show t14 S52.pre S52.F S53.pre S53.F S54.pre S54.F f a b s = _
  unfold t14 cmpF
  by_cases h : chk2 f a b = 0
  · obtain ⟨h1, h2⟩ := chk2_zero h
    have p0 := T52_ok ha hb h1 h2
    simp only [pre52 p0, fun52 p0, pre53 (T53_eq _), fun53 (T53_eq _), pre54 (T54_eq _ _), fun54 (T54_eq _ _), cond_true, bne_self_eq_false, cond_false, cls_nan, Bool.true_or, h, ne_eq, not_true_eq_false, if_false, gt_iff_lt]
    simp only [cls_snan]
    cases nan f a || nan f b <;> cases s <;> by_cases hlt : place f a < place f b <;> by_cases hgt : place f b < place f a <;> simp [hlt, hgt]
  · obtain ⟨x, y, p0⟩ := T52_bad ha hb h
    have : (chk2 f a b != 0) = true := by simpa using h
    simp only [pre52 p0, fun52 p0, cond_true, this, if_pos (show chk2 f a b ≠ 0 from h)]

end VL
