/- The signs turned; the neighbours; the order of all patterns is an order. -/
import Derived.Test.YtkkdblemeoehpaaDoorVxL4
namespace VL
open Go Vx

theorem one_bit (k : Nat) : Nat.testBit 1 k = decide (k = 0) := by
  rw [Bool.eq_iff_iff]
  simp [Nat.testBit_one_eq_true_iff_self_eq_zero]

theorem xor_pow {m n : Nat} (h : m < 2 ^ (n + 1)) : m ^^^ 2 ^ n = if m < 2 ^ n then m + 2 ^ n else m - 2 ^ n := by
  apply Nat.eq_of_testBit_eq
  intro i
  rw [Nat.testBit_xor, Nat.testBit_two_pow]
  have h2 : 2 ^ (n + 1) = 2 * 2 ^ n := Nat.pow_succ'
  split
  · rename_i hm
    have : m + 2 ^ n = 2 ^ n * 1 + m := by omega
    rw [this, Nat.testBit_two_pow_mul_add _ hm]
    by_cases hi : i < n
    · have : ¬ n = i := by omega
      simp [hi, this]
    · rw [if_neg hi, Nat.testBit_lt_two_pow (Nat.lt_of_lt_of_le hm (Nat.pow_le_pow_right (by omega) (by omega)))]
      rw [one_bit]
      by_cases hn : n = i
      · subst hn; simp
      · have : ¬ i - n = 0 := by omega
        simp [hn, this]
  · rename_i hm
    have e : m = 2 ^ n * 1 + (m - 2 ^ n) := by omega
    have hr : m - 2 ^ n < 2 ^ n := by omega
    rw [e, Nat.testBit_two_pow_mul_add _ hr]
    have e2 : 2 ^ n * 1 + (m - 2 ^ n) - 2 ^ n = m - 2 ^ n := by omega
    rw [e2]
    by_cases hi : i < n
    · have : ¬ n = i := by omega
      simp [hi, this]
    · rw [if_neg hi, Nat.testBit_lt_two_pow (x := m - 2 ^ n) (Nat.lt_of_lt_of_le hr (Nat.pow_le_pow_right (by omega) (by omega))), one_bit]
      by_cases hn : n = i
      · subst hn; simp
      · have : ¬ i - n = 0 := by omega
        simp [hn, this]

theorem xorI_bit {m n : Nat} (hn : n ≤ 63) (h : m < 2 ^ (n + 1)) : xorI .u64 (m : Int) ((2 ^ n : Nat) : Int) = ((if m < 2 ^ n then m + 2 ^ n else m - 2 ^ n : Nat) : Int) := by
  have h1 : 2 ^ (n + 1) ≤ 2 ^ 64 := Nat.pow_le_pow_right (by omega) (by omega)
  have h2 : 2 ^ n < 2 ^ 64 := Nat.pow_lt_pow_right (by omega) (by omega)
  have h3 : 2 ^ (n + 1) = 2 * 2 ^ n := Nat.pow_succ'
  have key : (BitVec.ofInt 64 (m : Int) ^^^ BitVec.ofInt 64 ((2 ^ n : Nat) : Int)).toNat = if m < 2 ^ n then m + 2 ^ n else m - 2 ^ n := by
    rw [BitVec.toNat_xor, ofInt_u64 (by omega), ofInt_u64 h2, xor_pow h]
  show IntKind.u64.wrap (((BitVec.ofInt 64 (m : Int) ^^^ BitVec.ofInt 64 ((2 ^ n : Nat) : Int)).toNat : Nat) : Int) = _
  rw [key]
  refine wrapU ⟨Int.natCast_nonneg _, ?_⟩
  split <;> omega

/-- the pattern with a sign and the rest -/
def mkF (f : Int) (s : Bool) (n : Nat) : Nat := n + (bif s then 2 ^ (fW f - 1) else 0)

theorem two_half {f : Int} (hf : Fm f) : 2 ^ fW f = 2 * 2 ^ (fW f - 1) := by
  have h2 := fP_lt hf
  rw [← Nat.pow_succ']; congr 1; omega

theorem mk_chk {f : Int} (hf : Fm f) (s : Bool) {n : Nat} (hn : n < 2 ^ (fW f - 1)) : chk f (mkF f s n) = 0 := by
  apply chk_ok hf
  rw [two_half hf]
  unfold mkF
  cases s <;> simp <;> omega

theorem mk_abs {f : Int} (s : Bool) {n : Nat} (hn : n < 2 ^ (fW f - 1)) : absF f (mkF f s n) = n := by
  unfold absF mkF
  cases s
  · simp only [cond_false, Nat.add_zero]; exact Nat.mod_eq_of_lt hn
  · simp only [cond_true, Nat.add_mod_right]; exact Nat.mod_eq_of_lt hn

theorem mk_sgn {f : Int} (s : Bool) {n : Nat} (hn : n < 2 ^ (fW f - 1)) : sF f (mkF f s n) = s := by
  unfold sF mkF
  rw [div_ne_zero]
  cases s
  · simp only [cond_false, Nat.add_zero, decide_eq_false_iff_not]; omega
  · simp

theorem pat_mk {f : Int} {a : Nat} (h : chk f a = 0) : a = mkF f (sF f a) (absF f a) := pat_eq h

theorem pat_lt {f : Int} {a : Nat} (h : chk f a = 0) : a < 2 ^ 64 := by
  obtain ⟨hf, h0⟩ := chk_zero h
  exact Nat.lt_of_lt_of_le h0 (Nat.pow_le_pow_right (by omega) (fW_le hf))

theorem eF_abs {f : Int} (hf : Fm f) (a : Nat) : eF f a = absF f a / 2 ^ (fP f - 1) := by
  rw [abs_eq hf, Nat.add_mul_div_left _ _ (Nat.two_pow_pos _)]
  have : mF f a / 2 ^ (fP f - 1) = 0 := Nat.div_eq_of_lt (Nat.mod_lt _ (Nat.two_pow_pos _))
  omega

theorem mF_abs {f : Int} (hf : Fm f) (a : Nat) : mF f a = absF f a % 2 ^ (fP f - 1) := by
  rw [abs_eq hf, Nat.add_mul_mod_self_left]
  exact (Nat.mod_eq_of_lt (Nat.mod_lt _ (Nat.two_pow_pos _))).symm

theorem nan_congr {f : Int} (hf : Fm f) {a b : Nat} (h : absF f a = absF f b) : nan f a = nan f b := by
  unfold nan; rw [eF_abs hf, eF_abs hf b, mF_abs hf, mF_abs hf b, h]

theorem snan_congr {f : Int} (hf : Fm f) {a b : Nat} (h : absF f a = absF f b) : snan f a = snan f b := by
  unfold snan; rw [nan_congr hf h, mF_abs hf, mF_abs hf b, h]

/-- infinity without its sign -/
def infF (f : Int) : Nat := 2 ^ (fP f - 1) * fullF f

theorem inf_room {f : Int} (hf : Fm f) : infF f + 128 ≤ 2 ^ (fW f - 1) := by
  rcases Fm_cases hf with rfl | rfl | rfl | rfl <;> decide

theorem e_le {f : Int} (a : Nat) : eF f a ≤ fullF f := by
  have : eF f a < 2 ^ (fW f - fP f) := Nat.mod_lt _ (Nat.two_pow_pos _)
  unfold fullF; omega

theorem num_le {f : Int} (hf : Fm f) {a : Nat} (h : nan f a = false) : absF f a ≤ infF f := by
  rw [abs_eq hf]
  have h1 := e_le (f := f) a
  have hm : mF f a < 2 ^ (fP f - 1) := Nat.mod_lt _ (Nat.two_pow_pos _)
  unfold nan at h
  unfold infF
  rcases Nat.lt_or_ge (eF f a) (fullF f) with h2 | h2
  · have : 2 ^ (fP f - 1) * (eF f a + 1) ≤ 2 ^ (fP f - 1) * fullF f := Nat.mul_le_mul_left _ h2
    rw [Nat.mul_add] at this
    omega
  · have e : eF f a = fullF f := by omega
    rw [e] at h ⊢
    simp at h
    omega

theorem inf_iff {f : Int} (hf : Fm f) (a : Nat) : absF f a = infF f ↔ eF f a = fullF f ∧ mF f a = 0 := by
  have hp := Nat.two_pow_pos (fP f - 1)
  constructor
  · intro h
    rw [eF_abs hf, mF_abs hf, h]
    unfold infF
    exact ⟨Nat.mul_div_cancel_left _ hp, Nat.mul_mod_right _ _⟩
  · rintro ⟨h1, h2⟩
    rw [abs_eq hf, h1, h2]
    unfold infF; omega

theorem cls_inf {f : Int} (hf : Fm f) {a : Nat} (h : absF f a = infF f) : cls f a = bif sF f a then 2 else 9 := by
  obtain ⟨h1, h2⟩ := (inf_iff hf a).1 h
  unfold cls
  rw [h1, h2]
  simp

theorem cls_inf' {f : Int} {a : Nat} (hf : Fm f) {c : Int} (hc : c = 9 ∨ c = 2) (h : cls f a = c) : absF f a = infF f := by
  rw [inf_iff hf]
  unfold cls at h
  cases e1 : eF f a == fullF f <;> cases e2 : eF f a == 0 <;> cases e3 : mF f a == 0 <;> cases e4 : sF f a <;> cases e5 : mF f a / 2 ^ (fP f - 2) != 0 <;>
    simp [e1, e2, e3, e4, e5] at h <;> first | (exfalso; omega) | (exact ⟨by simpa using e1, by simpa using e3⟩)

/-- the sign turned -/
def negF (f : Int) (a : Nat) : Nat := mkF f (!sF f a) (absF f a)

theorem neg_chk {f : Int} (hf : Fm f) (a : Nat) : chk f (negF f a) = 0 := mk_chk hf _ (abs_lt' a)
theorem neg_abs {f : Int} (a : Nat) : absF f (negF f a) = absF f a := mk_abs _ (abs_lt' a)
theorem neg_sgn {f : Int} (a : Nat) : sF f (negF f a) = !sF f a := mk_sgn _ (abs_lt' a)
theorem neg_neg {f : Int} {a : Nat} (h : chk f a = 0) : negF f (negF f a) = a := by
  unfold negF
  rw [mk_abs _ (abs_lt' a), mk_sgn _ (abs_lt' a), Bool.not_not]
  exact (pat_mk h).symm

theorem neg_place {f : Int} (a : Nat) : place f (negF f a) = -place f a := by
  unfold place
  rw [neg_abs, neg_sgn]
  cases sF f a <;> simp

theorem neg_rank {f : Int} (a : Nat) : rankF f (negF f a) = -1 - rankF f a := by
  unfold rankF
  rw [neg_abs, neg_sgn]
  cases sF f a <;> simp <;> omega

theorem T64_ok {f : Int} {a : Nat} (h : chk f a = 0) : T64 (f, (a : Int), ()) = some ((negF f a : Int), 0, ()) := by
  obtain ⟨hf, h0⟩ := chk_zero h
  show t64 S66.pre S66.F S115.pre S115.F f a = _
  unfold t64
  have h2 := fP_lt hf
  have h3 := fW_le hf
  have p0 := T66_eq f a (pat_lt h)
  have p1 := T115_ok hf
  simp only [pre66 p0, fun66 p0, pre115 p1, fun115 p1, h, cond_true, bne_self_eq_false, cond_false]
  rw [xorI_bit (by omega) (by rw [Nat.sub_add_cancel (by omega)]; exact h0)]
  have e : (if a < 2 ^ (fW f - 1) then a + 2 ^ (fW f - 1) else a - 2 ^ (fW f - 1)) = negF f a := by
    have hp := pat_mk h
    have hl := abs_lt' (f := f) a
    unfold negF
    unfold mkF at hp ⊢
    cases hs : sF f a <;> rw [hs] at hp <;> simp only [cond_true, cond_false, Bool.not_true, Bool.not_false] at hp ⊢
    · rw [if_pos (by omega)]; omega
    · rw [if_neg (by omega)]; omega
  rw [e]

theorem T64_bad {f : Int} {a : Nat} (ha : a < 2 ^ 64) (h : chk f a ≠ 0) : T64 (f, (a : Int), ()) = some (0, chk f a, ()) := by
  show t64 S66.pre S66.F S115.pre S115.F f a = _
  unfold t64
  have p0 := T66_eq f a ha
  have : (chk f a != 0) = true := by simpa using h
  simp only [pre66 p0, fun66 p0, this, cond_true]

/-- the next number up (w = 1) or down (w = -1) -/
def nextF (f : Int) (a : Nat) (w : Int) : Nat :=
  bif (cls f a == 9 && decide (w > 0)) || (cls f a == 2 && decide (w < 0)) then a
  else if place f a + w > 0 ∨ (place f a + w = 0 ∧ w < 0) then (place f a + w).toNat
  else negF f (-(place f a + w)).toNat

def stepP (f : Int) (a : Nat) (w : Int) : Nat := bif nan f a then nanF f else nextF f a w
def stepF (f : Int) (a : Nat) (w : Int) : Int × Int × Int × Unit :=
  if chk f a ≠ 0 then (0, 0, chk f a, ()) else ((stepP f a w : Int), (bif snan f a then 1 else 0), 0, ())

/-- a step from a number stays among the patterns -/
theorem step_room {f : Int} {a : Nat} (h : chk f a = 0) (hn : nan f a = false) {w : Int} (hw : w = 1 ∨ w = -1) (hi : ((cls f a == 9 && decide (w > 0)) || (cls f a == 2 && decide (w < 0))) = false) :
    -(infF f : Int) ≤ place f a + w ∧ place f a + w ≤ infF f := by
  have hf := (chk_zero h).1
  have hl := num_le hf hn
  rcases Nat.lt_or_ge (absF f a) (infF f) with h1 | h1
  · unfold place
    cases sF f a <;> simp only [cond_true, cond_false] <;> omega
  · have e : absF f a = infF f := by omega
    have hc := cls_inf hf e
    have hpos : 0 < infF f := Nat.mul_pos (Nat.two_pow_pos _) (full_pos hf)
    unfold place
    rw [hc] at hi
    cases hs : sF f a <;> rw [hs] at hi <;> rcases hw with rfl | rfl <;> simp at hi <;> simp only [cond_true, cond_false] <;> rw [e] <;> constructor <;> omega

theorem T93_eq {f : Int} {a : Nat} (ha : a < 2 ^ 64) {w : Int} (hw : w = 1 ∨ w = -1) : T93 (f, (a : Int), w, ()) = some (stepF f a w) := by
  show t93 S82.pre S82.F S53.pre S53.F S70.pre S70.F S54.pre S54.F S64.pre S64.F f a w = _
  unfold t93 stepF
  by_cases h : chk f a = 0
  · have hf := (chk_zero h).1
    have p0 := T82_ok ha h
    simp only [pre82 p0, fun82 p0, pre53 (T53_eq _), fun53 (T53_eq _), pre54 (T54_eq _ _), fun54 (T54_eq _ _), pre70 (T70_ok hf), fun70 (T70_ok hf), cond_true, bne_self_eq_false, cond_false, cls_nan, h, ne_eq, not_true_eq_false, if_false]
    simp only [cls_snan, Bool.or_self]
    unfold stepP
    cases hn : nan f a
    · have hs := snan_nan hn
      rw [hs]
      simp only [cond_false]
      unfold nextF
      cases hi : (cls f a == 9 && decide (w > 0)) || (cls f a == 2 && decide (w < 0))
      · obtain ⟨r1, r2⟩ := step_room h hn hw hi
        have hroom := inf_room hf
        have hW := fW_le hf
        have h63 : 2 ^ (fW f - 1) ≤ 2 ^ 63 := Nat.pow_le_pow_right (by omega) (by omega)
        have e1 : IntKind.wrap .i64 (place f a + w) = place f a + w := wrapI (by omega)
        simp only [cond_false, e1]
        by_cases ht : place f a + w > 0 ∨ (place f a + w = 0 ∧ w < 0)
        · have : (decide (place f a + w > 0) || (place f a + w == 0 && decide (w < 0))) = true := by
            simp only [Bool.or_eq_true, decide_eq_true_eq, Bool.and_eq_true, beq_iff_eq]; exact ht
          rw [this, if_pos ht, cond_true, wrapU (by omega)]
          have : ((place f a + w).toNat : Int) = place f a + w := by omega
          rw [this]
        · have : (decide (place f a + w > 0) || (place f a + w == 0 && decide (w < 0))) = false := by
            rw [Bool.eq_false_iff]
            simp only [ne_eq, Bool.or_eq_true, decide_eq_true_eq, Bool.and_eq_true, beq_iff_eq]; exact ht
          rw [this, if_neg ht, cond_false]
          have e2 : IntKind.wrap .u64 (IntKind.wrap .i64 (0 - (place f a + w))) = (((-(place f a + w)).toNat : Nat) : Int) := by
            rw [wrapI (by omega), wrapU (by omega)]; omega
          rw [e2]
          have hc : chk f (-(place f a + w)).toNat = 0 := by
            have := mk_chk hf false (n := (-(place f a + w)).toNat) (by omega)
            simpa [mkF] using this
          have p1 := T64_ok hc
          simp only [pre64 p1, fun64 p1, cond_true]
      · simp only [cond_true]
    · simp only [cond_true]
  · have p0 := T82_bad ha h
    have : (chk f a != 0) = true := by simpa using h
    simp only [pre82 p0, fun82 p0, this, cond_true, if_pos (show chk f a ≠ 0 from h)]

theorem T41_eq {f : Int} {a : Nat} (ha : a < 2 ^ 64) : T41 (f, (a : Int), ()) = some (stepF f a 1) := by
  show t41 S93.pre S93.F f a = _
  unfold t41
  have p := T93_eq (f := f) ha (.inl rfl)
  simp only [pre93 p, fun93 p, cond_true]

theorem T42_eq {f : Int} {a : Nat} (ha : a < 2 ^ 64) : T42 (f, (a : Int), ()) = some (stepF f a (-1)) := by
  show t42 S93.pre S93.F f a = _
  unfold t42
  have p := T93_eq (f := f) ha (.inr rfl)
  simp only [pre93 p, fun93 p, cond_true]

theorem nan_nanF {f : Int} (hf : Fm f) : nan f (nanF f) = true ∧ chk f (nanF f) = 0 := by
  rcases Fm_cases hf with rfl | rfl | rfl | rfl <;> decide

theorem next_chk {f : Int} {a : Nat} (h : chk f a = 0) (hn : nan f a = false) {w : Int} (hw : w = 1 ∨ w = -1) : chk f (nextF f a w) = 0 := by
  have hf := (chk_zero h).1
  unfold nextF
  cases hi : (cls f a == 9 && decide (w > 0)) || (cls f a == 2 && decide (w < 0))
  · obtain ⟨r1, r2⟩ := step_room h hn hw hi
    have hroom := inf_room hf
    simp only [cond_false]
    split
    · have := mk_chk hf false (n := (place f a + w).toNat) (by omega)
      simpa [mkF] using this
    · exact neg_chk hf _
  · exact h

theorem step_chk {f : Int} {a : Nat} (h : chk f a = 0) {w : Int} (hw : w = 1 ∨ w = -1) : chk f (stepP f a w) = 0 := by
  have hf := (chk_zero h).1
  unfold stepP
  cases hn : nan f a
  · exact next_chk h hn hw
  · exact (nan_nanF hf).2

/-- NextDown is the opposite of NextUp of the opposite -/
theorem next_neg {f : Int} {a : Nat} (h : chk f a = 0) (hn : nan f a = false) : negF f (nextF f a (-1)) = nextF f (negF f a) 1 := by
  have hf := (chk_zero h).1
  have hx := neg_chk hf a
  have hna : nan f (negF f a) = false := (nan_congr hf (neg_abs a)).trans hn
  have ci : (cls f a == 2) = (cls f (negF f a) == 9) := by
    rw [Bool.eq_iff_iff]
    simp only [beq_iff_eq]
    constructor
    · intro hc
      have e := cls_inf' hf (.inr rfl) hc
      have e2 := cls_inf hf e
      have e3 := cls_inf hf (a := negF f a) ((neg_abs a).trans e)
      rw [e3, neg_sgn]
      cases hs : sF f a <;> rw [hs, hc] at e2 <;> simp at e2 ⊢
    · intro hc
      have e := cls_inf' hf (.inl rfl) hc
      have e2 := cls_inf hf e
      have e3 := cls_inf hf (a := a) ((neg_abs a).symm.trans e)
      rw [neg_sgn, hc] at e2
      rw [e3]
      cases hs : sF f a <;> rw [hs] at e2 <;> simp at e2 ⊢
  have s1 : ((cls f a == 9 && decide ((-1 : Int) > 0)) || (cls f a == 2 && decide ((-1 : Int) < 0))) = (cls f a == 2) := by simp
  have s2 : ((cls f (negF f a) == 9 && decide ((1 : Int) > 0)) || (cls f (negF f a) == 2 && decide ((1 : Int) < 0))) = (cls f (negF f a) == 9) := by simp
  cases hi : cls f a == 2
  · have r := step_room h hn (.inr rfl) (s1.trans hi)
    have hroom := inf_room hf
    unfold nextF
    rw [s1, s2, ← ci, hi, neg_place]
    simp only [cond_false]
    have mk0 : ∀ n : Nat, n < 2 ^ (fW f - 1) → negF f n = mkF f true n := fun n hn => by
      have e1 := mk_abs (f := f) false hn
      have e2 := mk_sgn (f := f) false hn
      have e3 : mkF f false n = n := by simp [mkF]
      rw [e3] at e1 e2
      unfold negF
      rw [e1, e2]; rfl
    have nn0 : ∀ n : Nat, n < 2 ^ (fW f - 1) → negF f (negF f n) = n := fun n hn => neg_neg (by
      have := mk_chk hf false hn
      simpa [mkF] using this)
    by_cases ht : place f a + -1 ≥ 0
    · rw [if_pos (by omega), if_neg (by omega)]
      congr 1
      omega
    · rw [if_neg (by omega), if_pos (by omega), nn0 _ (by omega)]
      omega
  · unfold nextF
    rw [s1, s2, ← ci, hi]
    rfl

end VL
