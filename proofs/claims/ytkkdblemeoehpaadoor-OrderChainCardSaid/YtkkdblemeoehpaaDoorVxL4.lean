/- Min, Max and the order of all patterns: the package's and the document's are one. -/
import Derived.Test.YtkkdblemeoehpaaDoorVxL3
namespace VL
open Go Vx

theorem pow_split {f : Int} (hf : Fm f) : 2 ^ (fW f - 1) = 2 ^ (fP f - 1) * 2 ^ (fW f - fP f) := by
  have h1 := fP_ge hf
  have h2 := fP_lt hf
  rw [← Nat.pow_add]
  congr 1
  omega

theorem abs_eq {f : Int} (hf : Fm f) (a : Nat) : absF f a = mF f a + 2 ^ (fP f - 1) * eF f a := by
  unfold absF mF eF
  rw [pow_split hf, Nat.mod_mul]

theorem pat_eq {f : Int} {a : Nat} (h : chk f a = 0) : a = absF f a + (bif sF f a then 2 ^ (fW f - 1) else 0) := by
  obtain ⟨hf, h0⟩ := chk_zero h
  have h2 := fP_lt hf
  have e : 2 ^ fW f = 2 * 2 ^ (fW f - 1) := by rw [← Nat.pow_succ']; congr 1; omega
  unfold absF sF
  rw [div_ne_zero]
  by_cases hc : 2 ^ (fW f - 1) ≤ a
  · rw [decide_eq_true hc]
    simp only [cond_true]
    have : a % 2 ^ (fW f - 1) = a - 2 ^ (fW f - 1) := by
      rw [Nat.mod_eq_sub_mod hc, Nat.mod_eq_of_lt (by omega)]
    omega
  · rw [decide_eq_false hc]
    simp only [cond_false]
    rw [Nat.mod_eq_of_lt (by omega)]
    rfl

theorem abs_lt' {f : Int} (a : Nat) : absF f a < 2 ^ (fW f - 1) := Nat.mod_lt _ (Nat.two_pow_pos _)

theorem full_pos {f : Int} (hf : Fm f) : 0 < fullF f := by
  rcases Fm_cases hf with rfl | rfl | rfl | rfl <;> decide

theorem zero_iff {f : Int} (hf : Fm f) (a : Nat) : absF f a = 0 ↔ eF f a = 0 ∧ mF f a = 0 := by
  rw [abs_eq hf]
  have := Nat.two_pow_pos (fP f - 1)
  constructor
  · intro h
    have h1 : 2 ^ (fP f - 1) * eF f a = 0 := by omega
    rcases Nat.mul_eq_zero.1 h1 with h2 | h2
    · omega
    · exact ⟨h2, by omega⟩
  · rintro ⟨h1, h2⟩
    rw [h1, h2]; rfl

theorem cls_zero {f : Int} (hf : Fm f) {a : Nat} (h : absF f a = 0) : cls f a = bif sF f a then 5 else 6 := by
  obtain ⟨h1, h2⟩ := (zero_iff hf a).1 h
  have h3 := full_pos hf
  unfold cls
  have e1 : (eF f a == fullF f) = false := by rw [h1]; simp; omega
  have e2 : (eF f a == 0) = true := by rw [h1]; rfl
  have e3 : (mF f a == 0) = true := by rw [h2]; rfl
  rw [e1, e2, e3]
  rfl

theorem cls_zero' {f : Int} (hf : Fm f) {a : Nat} {c : Int} (hc : c = 5 ∨ c = 6) (h : cls f a = c) : absF f a = 0 := by
  rw [zero_iff hf]
  unfold cls at h
  cases e1 : eF f a == fullF f <;> cases e2 : eF f a == 0 <;> cases e3 : mF f a == 0 <;> cases e4 : sF f a <;> cases e5 : mF f a / 2 ^ (fP f - 2) != 0 <;>
    simp [e1, e2, e3, e4, e5] at h <;> first | (exfalso; omega) | (exact ⟨by simpa using e2, by simpa using e3⟩)

/-- a pattern's place among all -/
def rankF (f : Int) (a : Nat) : Int := bif sF f a then -(absF f a : Int) - 1 else absF f a

theorem T58_ok {f : Int} {a : Nat} (ha : a < 2 ^ 64) (h : chk f a = 0) : T58 (f, (a : Int), ()) = some (rankF f a, ()) := by
  have hf := (chk_zero h).1
  show t58 S112.pre S112.F f a = _
  unfold t58
  have hl := abs_lt f hf a
  have p0 := T112_ok ha h
  have hp := pat_eq h
  have e : ((absF f a : Int) == (a : Int)) = !sF f a := by
    have := abs_ne (f := f) a
    rw [← this]; simp [bne]
  simp only [pre112 p0, fun112 p0, cond_true, e]
  rw [wrapI (n := (absF f a : Int)) (by omega), wrapI (n := 0 - (absF f a : Int)) (by omega), wrapI (n := 0 - (absF f a : Int) - 1) (by omega)]
  unfold rankF
  cases hs : sF f a
  · rw [hs] at hp
    simp only [cond_false, Nat.add_zero] at hp
    simp only [Bool.not_false, cond_true, cond_false]
    rw [← hp, wrapI (by omega)]
  · simp

/-- the order of all patterns, and the error -/
def totF (f : Int) (a b : Nat) : Int × Int × Unit :=
  if chk2 f a b ≠ 0 then (0, chk2 f a b, ()) else (ord (rankF f a) (rankF f b), 0, ())

theorem T17_eq {f : Int} {a b : Nat} (ha : a < 2 ^ 64) (hb : b < 2 ^ 64) : T17 (f, (a : Int), (b : Int), ()) = some (totF f a b) := by
  show t17 S52.pre S52.F S58.pre S58.F f a b = _
  unfold t17 totF
  by_cases h : chk2 f a b = 0
  · obtain ⟨h1, h2⟩ := chk2_zero h
    have p0 := T52_ok ha hb h1 h2
    have p1 := T58_ok ha h1
    have p2 := T58_ok hb h2
    simp only [pre52 p0, fun52 p0, pre58 p1, fun58 p1, pre58 p2, fun58 p2, cond_true, bne_self_eq_false, cond_false, h, ne_eq, not_true_eq_false, if_false]
    unfold ord
    by_cases hlt : rankF f a < rankF f b <;> by_cases hgt : rankF f a > rankF f b <;> simp [hlt, hgt]
  · obtain ⟨x, y, p0⟩ := T52_bad ha hb h
    have : (chk2 f a b != 0) = true := by simpa using h
    simp only [pre52 p0, fun52 p0, cond_true, this, if_pos (show chk2 f a b ≠ 0 from h)]

theorem sgn_val {f : Int} {a : Nat} (h : chk f a = 0) : (sgn f a : Int) = bif sF f a then 1 else 0 := by
  have := sgn_eq h
  have h2 : sgn f a < 2 := Nat.mod_lt _ (by decide)
  cases hs : sF f a
  · rw [hs] at this
    simp at this
    simp; omega
  · rw [hs] at this
    simp at this
    simp; omega

theorem T18_eq {f : Int} {a b : Nat} (ha : a < 2 ^ 64) (hb : b < 2 ^ 64) : T18 (f, (a : Int), (b : Int), ()) = some (totF f a b) := by
  show t18 S55.pre S55.F S59.pre S59.F f a b = _
  unfold t18 totF
  have p0 := T55_eq f ha hb
  by_cases h : chk2 f a b = 0
  · obtain ⟨h1, h2⟩ := chk2_zero h
    have hf := (chk_zero h1).1
    have p1 := T59_eq hf ha
    have p2 := T59_eq hf hb
    simp only [pre55 p0, fun55 p0, pre59 p1, fun59 p1, pre59 p2, fun59 p2, cond_true, bne_self_eq_false, h, ne_eq, not_true_eq_false, if_false, Bool.false_or, nbeq a b]
    rw [sgn_val h1, sgn_val h2]
    have ea := pat_eq h1
    have eb := pat_eq h2
    have la := abs_lt' (f := f) a
    have lb := abs_lt' (f := f) b
    unfold rankF ord
    by_cases hab : a = b
    · subst hab
      simp
    · have e1 : (a == b) = false := by simpa using hab
      rw [e1]
      cases hs : sF f a <;> cases hs' : sF f b <;> rw [hs] at ea <;> rw [hs'] at eb <;> simp only [cond_true, cond_false] at ea eb ⊢
      · by_cases hlt : a < b
        · have h3 : (decide ((a : Int) < (b : Int))) = true := by simp; omega
          rw [if_pos (by omega)]
          rw [h3]; rfl
        · have h3 : (decide ((a : Int) < (b : Int))) = false := by simp; omega
          rw [if_neg (by omega), if_pos (by omega)]
          rw [h3]; rfl
      · rw [if_neg (by omega), if_pos (by omega)]; rfl
      · rw [if_pos (by omega)]; rfl
      · by_cases hlt : a > b
        · have h3 : (decide ((a : Int) > (b : Int))) = true := by simp; omega
          rw [if_pos (by omega)]
          rw [h3]; rfl
        · have h3 : (decide ((a : Int) > (b : Int))) = false := by simp; omega
          rw [if_neg (by omega), if_pos (by omega)]
          rw [h3]; rfl
  · have : (chk2 f a b != 0) = true := by simpa using h
    simp only [pre55 p0, fun55 p0, cond_true, this, Bool.true_or, if_pos (show chk2 f a b ≠ 0 from h)]

/-- the canonical pattern that isn't a number -/
def nanF (f : Int) : Nat := 2 ^ (fW f - 1) - 2 ^ (fP f - 2)
def zeroF (f : Int) (neg : Bool) : Nat := bif neg then 2 ^ (fW f - 1) else 0

theorem T70_ok {f : Int} (hf : Fm f) : T70 (f, ()) = some ((nanF f : Int), 0, ()) := by
  rcases Fm_cases hf with rfl | rfl | rfl | rfl <;> kernel_rfl
theorem T84_ok {f : Int} (hf : Fm f) : T84 (f, ()) = some ((nanF f : Int), ()) := by
  rcases Fm_cases hf with rfl | rfl | rfl | rfl <;> kernel_rfl
theorem T114_zero {f : Int} (hf : Fm f) : T114 (f, 0, ()) = some ((zeroF f false : Int), ()) := by
  rcases Fm_cases hf with rfl | rfl | rfl | rfl <;> kernel_rfl
theorem T114_one {f : Int} (hf : Fm f) : T114 (f, 1, ()) = some ((zeroF f true : Int), ()) := by
  rcases Fm_cases hf with rfl | rfl | rfl | rfl <;> kernel_rfl

/-- the lesser one of two numbers (or the greater one) -/
def pickN (f : Int) (a b : Nat) (g : Bool) : Nat :=
  if place f a = place f b ∧ a ≠ b then zeroF f (!g)
  else if (place f b < place f a ∧ g = false) ∨ (place f a < place f b ∧ g = true) then b else a

theorem place_zero {f : Int} {a b : Nat} (h1 : chk f a = 0) (h2 : chk f b = 0) (hp : place f a = place f b) (hne : a ≠ b) : absF f a = 0 ∧ absF f b = 0 ∧ sF f a = !sF f b := by
  have ea := pat_eq h1
  have eb := pat_eq h2
  unfold place at hp
  cases hs : sF f a <;> cases hs' : sF f b <;> rw [hs] at ea hp <;> rw [hs'] at eb hp <;> simp only [cond_true, cond_false] at ea eb hp
  · omega
  · exact ⟨by omega, by omega, rfl⟩
  · exact ⟨by omega, by omega, rfl⟩
  · omega

theorem zero_pat {f : Int} {a : Nat} (h : chk f a = 0) (hz : absF f a = 0) : a = zeroF f (sF f a) := by
  have := pat_eq h
  unfold zeroF
  rw [hz] at this
  omega

theorem choose_num {f : Int} {a b : Nat} (h1 : chk f a = 0) (h2 : chk f b = 0) (g : Bool) :
    (bif (bif g then decide (place f a < place f b) else decide (place f b < place f a)) || (place f a == 0 && cls f b == (bif g then 6 else 5)) then b else a) = pickN f a b g := by
  have hf := (chk_zero h1).1
  unfold pickN
  by_cases hab : a = b
  · subst hab
    have : ¬ ((place f a < place f a ∧ g = false) ∨ (place f a < place f a ∧ g = true)) := by omega
    simp only [ne_eq, not_true_eq_false, and_false, if_false, if_neg this]
    cases ((bif g then decide (place f a < place f a) else decide (place f a < place f a)) || (place f a == 0 && cls f a == (bif g then 6 else 5))) <;> rfl
  · rcases Int.lt_trichotomy (place f a) (place f b) with hlt | heq | hgt
    · have n0 : ¬ (place f a = place f b ∧ a ≠ b) := by omega
      rw [if_neg n0]
      cases g
      · have n1 : ¬ ((place f b < place f a ∧ false = false) ∨ (place f a < place f b ∧ false = true)) := by simp; omega
        have n2 : ¬ place f b < place f a := by omega
        rw [if_neg n1]
        simp only [cond_false, decide_eq_false n2, Bool.false_or]
        cases e1 : place f a == 0 <;> cases e2 : cls f b == 5
        · rfl
        · rfl
        · rfl
        · exfalso
          have z := cls_zero' hf (.inl rfl) (by simpa using e2)
          have e3 : place f a = 0 := by simpa using e1
          have : place f b = 0 := by unfold place; rw [z]; cases sF f b <;> rfl
          omega
      · rw [if_pos (.inr ⟨hlt, rfl⟩)]
        simp only [cond_true, decide_eq_true hlt, Bool.true_or]
    · obtain ⟨z1, z2, z3⟩ := place_zero h1 h2 heq hab
      rw [if_pos ⟨heq, hab⟩]
      have e0 : place f a = 0 := by unfold place; rw [z1]; cases sF f a <;> rfl
      have c2 := cls_zero hf z2
      have za := zero_pat h1 z1
      have zb := zero_pat h2 z2
      have e1 : (place f a == 0) = true := by simpa using e0
      have e2 : place f b = 0 := heq ▸ e0
      have n3 : ((bif g then decide (place f a < place f b) else decide (place f b < place f a))) = false := by
        cases g <;> simp [e0, e2]
      rw [n3, e1, c2]
      cases g <;> cases hs : sF f b <;> rw [hs] at z3 zb <;> rw [z3] at za <;> first | exact za | exact zb
    · have n0 : ¬ (place f a = place f b ∧ a ≠ b) := by omega
      rw [if_neg n0]
      cases g
      · rw [if_pos (.inl ⟨hgt, rfl⟩)]
        simp only [cond_false, decide_eq_true hgt, Bool.true_or, cond_true]
      · have n1 : ¬ ((place f b < place f a ∧ true = false) ∨ (place f a < place f b ∧ true = true)) := by simp; omega
        have n2 : ¬ place f a < place f b := by omega
        rw [if_neg n1]
        simp only [cond_true, decide_eq_false n2, Bool.false_or]
        cases e1 : place f a == 0 <;> cases e2 : cls f b == 6
        · rfl
        · rfl
        · rfl
        · exfalso
          have z := cls_zero' hf (.inr rfl) (by simpa using e2)
          have e3 : place f a = 0 := by simpa using e1
          have : place f b = 0 := by unfold place; rw [z]; cases sF f b <;> rfl
          omega

def flagF (f : Int) (a b : Nat) : Int := bif snan f a || snan f b then 1 else 0

/-- Min, or Max: the pattern, what is raised, the error -/
def pickF (f : Int) (a b : Nat) (g : Bool) : Int × Int × Int × Unit :=
  if chk2 f a b ≠ 0 then (0, 0, chk2 f a b, ())
  else bif nan f a && nan f b then ((nanF f : Int), flagF f a b, 0, ())
  else bif nan f a then ((b : Int), flagF f a b, 0, ())
  else bif nan f b then ((a : Int), flagF f a b, 0, ())
  else ((pickN f a b g : Int), 0, 0, ())

theorem flag_num {f : Int} {a b : Nat} (h1 : nan f a = false) (h2 : nan f b = false) : flagF f a b = 0 := by
  unfold flagF; rw [snan_nan h1, snan_nan h2]; rfl

theorem T61_eq (x y : Int) : T61 (x, y, ()) = some (decide (y < x), ()) := rfl
theorem T63_eq (x y : Int) : T63 (x, y, ()) = some (decide (y > x), ()) := rfl

theorem T19_eq {f : Int} {a b : Nat} (ha : a < 2 ^ 64) (hb : b < 2 ^ 64) : T19 (f, (a : Int), (b : Int), ()) = some (pickF f a b false) := by
  show t19 S61.pre S61.F S52.pre S52.F S54.pre S54.F S70.pre S70.F S53.pre S53.F f a b = _
  unfold t19 pickF
  by_cases h : chk2 f a b = 0
  · obtain ⟨h1, h2⟩ := chk2_zero h
    have hf := (chk_zero h1).1
    have p0 := T52_ok ha hb h1 h2
    have key := choose_num h1 h2 false
    simp only [pre52 p0, fun52 p0, pre53 (T53_eq _), fun53 (T53_eq _), pre54 (T54_eq _ _), fun54 (T54_eq _ _), pre61 (T61_eq _ _), fun61 (T61_eq _ _), pre70 (T70_ok hf), fun70 (T70_ok hf),
      cond_true, bne_self_eq_false, cond_false, cls_nan, Bool.true_or, h, ne_eq, not_true_eq_false, if_false]
    simp only [cls_snan]
    have fl : (bif snan f a || snan f b then (1 : Int) else 0) = flagF f a b := rfl
    simp only [fl]
    cases n1 : nan f a <;> cases n2 : nan f b <;> simp only [Bool.not_true, Bool.not_false, Bool.true_or, Bool.false_or, Bool.true_and, Bool.false_and, Bool.and_true, Bool.and_false, Bool.or_true, Bool.or_false, cond_true, cond_false]
    rw [flag_num n1 n2, ← key]
    simp only [cond_false]
    cases (decide (place f b < place f a) || (place f a == 0 && cls f b == 5)) <;> rfl
  · obtain ⟨x, y, p0⟩ := T52_bad ha hb h
    have : (chk2 f a b != 0) = true := by simpa using h
    simp only [pre52 p0, fun52 p0, cond_true, this, if_pos (show chk2 f a b ≠ 0 from h)]

theorem T21_eq {f : Int} {a b : Nat} (ha : a < 2 ^ 64) (hb : b < 2 ^ 64) : T21 (f, (a : Int), (b : Int), ()) = some (pickF f a b true) := by
  show t21 S63.pre S63.F S52.pre S52.F S54.pre S54.F S70.pre S70.F S53.pre S53.F f a b = _
  unfold t21 pickF
  by_cases h : chk2 f a b = 0
  · obtain ⟨h1, h2⟩ := chk2_zero h
    have hf := (chk_zero h1).1
    have p0 := T52_ok ha hb h1 h2
    have key := choose_num h1 h2 true
    simp only [pre52 p0, fun52 p0, pre53 (T53_eq _), fun53 (T53_eq _), pre54 (T54_eq _ _), fun54 (T54_eq _ _), pre63 (T63_eq _ _), fun63 (T63_eq _ _), pre70 (T70_ok hf), fun70 (T70_ok hf),
      cond_true, bne_self_eq_false, cond_false, cls_nan, Bool.true_or, h, ne_eq, not_true_eq_false, if_false]
    simp only [cls_snan]
    have fl : (bif snan f a || snan f b then (1 : Int) else 0) = flagF f a b := rfl
    simp only [fl]
    cases n1 : nan f a <;> cases n2 : nan f b <;> simp only [Bool.not_true, Bool.not_false, Bool.true_or, Bool.false_or, Bool.true_and, Bool.false_and, Bool.and_true, Bool.and_false, Bool.or_true, Bool.or_false, cond_true, cond_false]
    rw [flag_num n1 n2, ← key]
    simp only [cond_true, gt_iff_lt]
    cases (decide (place f a < place f b) || (place f a == 0 && cls f b == 6)) <;> rfl
  · obtain ⟨x, y, p0⟩ := T52_bad ha hb h
    have : (chk2 f a b != 0) = true := by simpa using h
    simp only [pre52 p0, fun52 p0, cond_true, this, if_pos (show chk2 f a b ≠ 0 from h)]

theorem T62_eq {f : Int} {a b : Nat} (ha : a < 2 ^ 64) (hb : b < 2 ^ 64) (g : Bool) : T62 (f, (a : Int), (b : Int), g, ()) = some (pickF f a b g) := by
  show t62 S55.pre S55.F S56.pre S56.F S84.pre S84.F S109.pre S109.F S57.pre S57.F S114.pre S114.F f a b g = _
  unfold t62 pickF
  have p0 := T55_eq f ha hb
  by_cases h : chk2 f a b = 0
  · obtain ⟨h1, h2⟩ := chk2_zero h
    have hf := (chk_zero h1).1
    have p1 : T56 (f, ((a : Int) :: (b : Int) :: []), ()) = some (nans f [a, b]) := T56_eq hf [a, b] (by simp; omega) (by simp)
    have p2 := T57_eq ha hb h1 h2
    have p3 := T109_eq hf ha
    have p4 := T109_eq hf hb
    have fl : (bif snan f a || snan f b then (1 : Int) else 0) = flagF f a b := rfl
    simp only [pre55 p0, fun55 p0, pre56 p1, fun56 p1, pre57 p2, fun57 p2, pre109 p3, fun109 p3, pre109 p4, fun109 p4, pre84 (T84_ok hf), fun84 (T84_ok hf), pre114 (T114_zero hf), fun114 (T114_zero hf), pre114 (T114_one hf), fun114 (T114_one hf),
      h, cond_true, bne_self_eq_false, cond_false, nans, List.any_cons, List.any_nil, Bool.or_false, ne_eq, not_true_eq_false, if_false, Bool.true_or, fl, nbne]
    cases n1 : nan f a <;> cases n2 : nan f b <;> simp only [Bool.true_and, Bool.false_and, Bool.and_true, Bool.and_false, cond_true, cond_false]
    unfold pickN ord
    by_cases hab : a = b
    · subst hab
      simp
    · have e1 : (a != b) = true := by simpa using hab
      rw [e1]
      rcases Int.lt_trichotomy (place f a) (place f b) with hlt | heq | hgt
      · have g1 : ¬ place f a = place f b := by omega
        have g2 : ¬ place f b < place f a := by omega
        simp only [if_pos hlt]
        cases g <;> simp [g1, g2, hlt]
      · have g1 : ¬ place f a < place f b := by omega
        have g2 : ¬ place f a > place f b := by omega
        simp only [if_neg g1, if_neg g2]
        cases g <;> simp [heq, hab]
      · have g1 : ¬ place f a < place f b := by omega
        have g2 : ¬ place f a = place f b := by omega
        simp only [if_neg g1, if_pos hgt]
        cases g <;> simp [g1, g2, hgt]
  · have : (chk2 f a b != 0) = true := by simpa using h
    simp only [pre55 p0, fun55 p0, cond_true, this, if_pos (show chk2 f a b ≠ 0 from h)]

theorem T20_eq {f : Int} {a b : Nat} (ha : a < 2 ^ 64) (hb : b < 2 ^ 64) : T20 (f, (a : Int), (b : Int), ()) = some (pickF f a b false) := by
  show t20 S62.pre S62.F f a b = _
  unfold t20
  have p := T62_eq (f := f) ha hb false
  simp only [pre62 p, fun62 p, cond_true]

theorem T22_eq {f : Int} {a b : Nat} (ha : a < 2 ^ 64) (hb : b < 2 ^ 64) : T22 (f, (a : Int), (b : Int), ()) = some (pickF f a b true) := by
  show t22 S62.pre S62.F f a b = _
  unfold t22
  have p := T62_eq (f := f) ha hb true
  simp only [pre62 p, fun62 p, cond_true]

theorem T4_true (f : Int) {a b : Nat} (ha : a < 2 ^ 64) (hb : b < 2 ^ 64) : T4 (f, (a : Int), (b : Int), ()) = some (true, ()) := by
  show t4 S17.pre S17.F S18.pre S18.F S19.pre S19.F S20.pre S20.F S16.pre S16.F S21.pre S21.F S22.pre S22.F f a b = _
  unfold t4
  have p1 := T17_eq (f := f) ha hb
  have p2 := T18_eq (f := f) ha hb
  have p3 := T19_eq (f := f) ha hb
  have p4 := T20_eq (f := f) ha hb
  have p5 := T21_eq (f := f) ha hb
  have p6 := T22_eq (f := f) ha hb
  simp only [pre17 p1, fun17 p1, pre18 p2, fun18 p2, pre19 p3, fun19 p3, pre20 p4, fun20 p4, pre21 p5, fun21 p5, pre22 p6, fun22 p6, pre16 t16_true, fun16 t16_true, cond_true, bne_self_eq_false, beq_self_eq_true, Bool.or_self, Bool.and_self, cond_false, Bool.not_true]

end VL
