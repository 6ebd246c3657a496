/- Part 6 of the proof. What is proved: symbolic execution of the functions, proved sound; what each function of the program computes, and that every run ends with it; what these functions compute, in plain numbers. Conditions: each theorem bears its own. -/
import Derived.Test.YtkkdblemeoehpaaDoorVxG5
import Derived.ProofKit
import Derived.LaidMore
import Derived.OpenShut
import Derived.Stop.Joined
import GoSem.ClaimJoined
set_option linter.all false
set_option exponentiation.threshold 1000000
namespace VL
open Go Vx
theorem place_pos {f : Int} {n : Nat} (hn : n < 2 ^ (fW f - 1)) : place f n = n := by
  have := mk_place (f := f) false hn
  simpa [mkF] using this
/-- a step's place -/
theorem next_place {f : Int} {a : Nat} (h : chk f a = 0) (hn : nan f a = false) {w : Int} (hw : w = 1 ∨ w = -1) (hi : ((cls f a == 9 && decide (w > 0)) || (cls f a == 2 && decide (w < 0))) = false) :
    place f (nextF f a w) = place f a + w ∧ nan f (nextF f a w) = false := by
  have hf := (chk_zero h).1
  obtain ⟨r1, r2⟩ := step_room h hn hw hi
  have hroom := inf_room hf
  have hp : place f (nextF f a w) = place f a + w := by
    unfold nextF
    rw [hi, cond_false]
    split
    · rename_i hc
      rw [place_pos (by omega)]
      omega
    · rename_i hc
      rw [neg_place, place_pos (by omega)]
      omega
  refine ⟨hp, nan_of_le hf ?_⟩
  rw [← place_abs, hp]; omega
theorem T40_full {f : Int} {a : Nat} (h : chk f a = 0) (hfull : eF f a = fullF f) : T40 (f, (a : Int), ()) = some ((false, [], 0, ()), 40, ()) := by
  obtain ⟨hf, h0⟩ := chk_zero h
  have ha := pat_lt h
  show t40 S66.pre S66.F S90.pre S90.F S91.pre S91.F S92.pre S92.F f a = _
  unfold t40
  have h2 := fP_lt hf
  have h3 := fW_le hf
  have h4 := fP_ge hf
  have h5 := fP_le hf
  have p0 := T66_eq f a ha
  have p1 := T91_eq (fW f - fP f) (by omega)
  have p2 := T90_eq hf a ha
  have hr1 : decide (0 ≤ f) = true := decide_eq_true hf.1
  have hr2 : decide (f < ((4 : Nat) : Int)) = true := decide_eq_true hf.2
  have r1 : (rowOf f).1 = (fW f : Int) := rfl
  have r2 : (rowOf f).2.1 = (fP f : Int) := rfl
  have e1 : IntKind.wrap .i64 ((fW f : Int) - (fP f : Int)) = ((fW f - fP f : Nat) : Int) := wsubn _ _ (by omega)
  have hfl : (((eF f a : Nat) : Int) == ((2 ^ (fW f - fP f) - 1 : Nat) : Int)) = true := by
    rw [nbeq]; exact beq_iff_eq.2 hfull
  simp only [row_at hf, r1, r2, hr1, hr2, pre66 p0, fun66 p0, pre90 p2, fun90 p2, h, cond_true, bne_self_eq_false, cond_false, e1, pre91 p1, fun91 p1, hfl]
theorem T40_bad {f : Int} {a : Nat} (ha : a < 2 ^ 64) (h : chk f a ≠ 0) : T40 (f, (a : Int), ()) = some ((false, [], 0, ()), chk f a, ()) := by
  show t40 S66.pre S66.F S90.pre S90.F S91.pre S91.F S92.pre S92.F f a = _
  unfold t40
  have p0 := T66_eq f a ha
  have : (chk f a != 0) = true := by simpa using h
  simp only [pre66 p0, fun66 p0, this, cond_true]
theorem uE_eq (f : Int) (a : Nat) : (xpn f a - qm f).toNat = eF f a - 1 := by
  unfold xpn qm
  split <;> omega
theorem e_fin {f : Int} (hf : Fm f) {a : Nat} (fa : eF f a ≠ fullF f) : eF f a ≤ 2 * fX f := by
  have h1 := e_le (f := f) a
  have h2 : fullF f = 2 * fX f + 1 := by unfold fullF; rw [← fX_eq hf]
  omega
theorem ulp_lt {f : Int} (hf : Fm f) {k : Nat} (hk : k ≤ 2 * fX f - 1) : magX f (2 ^ k) < infF f := by
  have hX := fX_ge hf
  have hP := fP_ge hf
  have hpp := Nat.two_pow_pos (fP f - 1)
  have h2p := two_P hf
  rw [inf_ge hf]
  unfold magX
  by_cases h : 2 ^ k < 2 ^ fP f
  · rw [if_pos h]
    have : 2 * 2 ^ (fP f - 1) ≤ (2 * fX f + 1) * 2 ^ (fP f - 1) := Nat.mul_le_mul_right _ (by omega)
    omega
  · have hkP : fP f ≤ k := by
      rcases Nat.lt_or_ge k (fP f) with h1 | h1
      · exact absurd (Nat.pow_lt_pow_right (a := 2) (by decide) h1) h
      · exact h1
    have hb : blen (2 ^ k) = k + 1 := blen_of (Nat.le_refl _) (Nat.pow_lt_pow_right (by decide) (by omega))
    rw [if_neg h, hb]
    have hd : 2 ^ k / 2 ^ (k + 1 - fP f) = 2 ^ (fP f - 1) := by
      have e : k = (fP f - 1) + (k + 1 - fP f) := by omega
      have := Nat.mul_div_cancel (2 ^ (fP f - 1)) (Nat.two_pow_pos (k + 1 - fP f))
      rw [← Nat.pow_add, ← e] at this
      exact this
    rw [hd]
    have : (k + 1 - fP f + 2) * 2 ^ (fP f - 1) ≤ (2 * fX f + 1) * 2 ^ (fP f - 1) := Nat.mul_le_mul_right _ (by omega)
    rw [Nat.add_mul] at this
    omega
/-- Ulp of a number -/
theorem T45_fin {f : Int} {a : Nat} (h : chk f a = 0) (fa : eF f a ≠ fullF f) : ∃ u g : Nat, T45 (f, (a : Int), ()) = some ((u : Int), (g : Int), 0, ()) ∧ chk f u = 0 ∧ eF f u ≠ fullF f ∧ vA f u = ((2 ^ (eF f a - 1) : Nat) : Int) := by
  obtain ⟨hf, h0⟩ := chk_zero h
  have ha := pat_lt h
  have hX := fX_ge hf
  have hX2 := fX_le hf
  have hP := fP_ge hf
  have hP2 := fP_le hf
  have hE := e_fin hf fa
  have hk : eF f a - 1 ≤ 2 * fX f - 1 := by omega
  have hex := exact_of (f := f) (n := 2 ^ (eF f a - 1)) (N := 1) (k := eF f a - 1) (by rw [Nat.one_mul]) (Nat.lt_of_lt_of_le (show 1 < 2 ^ 1 by decide) (Nat.pow_le_pow_right (by decide) (by omega)))
  have hlt := ulp_lt hf hk
  have hx := xpn_bound hf a
  have p51 := T51_eq hf (m := 0) (by omega) false (n := 1) (Nat.lt_of_lt_of_le (show 1 < 2 ^ 1 by decide) (Nat.pow_le_pow_right (by decide) (by decide))) (by decide) (by decide) (xpn f a) (by omega)
  rw [rnd_qm hf 0 false (N := 1) (by decide) (xpn_ge f a), Nat.one_mul, uE_eq, rnd_exact hf 0 false (Nat.ne_of_gt (Nat.two_pow_pos _)) hex hlt] at p51
  dsimp only at p51
  obtain ⟨v1, v2, v3⟩ := val_magX hf false hex hlt
  refine ⟨mkF f false (magX f (2 ^ (eF f a - 1))), 0, ?_, v1, v2, v3⟩
  show t45 S82.pre S82.F S53.pre S53.F S54.pre S54.F S70.pre S70.F S97.pre S97.F S69.pre S69.F S98.pre S98.F S51.pre S51.F f a = _
  unfold t45
  have p82 := T82_ok ha h
  have p53 := T53_eq (cls f a, place f a, ())
  have hnan := (part_vals fa).1
  have hinf := (part_vals fa).2.2
  have hn : (cls f a == 1 || cls f a == 0) = false := by rw [cls_nan]; exact hnan
  have hi : (cls f a == 2 || cls f a == 9) = false := by rw [cls_isInf]; exact hinf
  rw [show ((cls f a, place f a, ()) : Int × Int × Unit).1 = cls f a from rfl, hn] at p53
  have p69 := T69_ok hf
  have p98 := T98_ok h
  have r2 : (rowOf f).2.1 = (fP f : Int) := rfl
  have r3 : (rowOf f).2.2.1 = 1 - (fX f : Int) := rfl
  have ew : IntKind.wrap .i64 (eF f a : Int) = (eF f a : Int) := wrapI (by omega)
  have hmax : ∃ z : Int, (if (1 : Int) > (eF f a : Int) then (1 : Int) else (eF f a : Int)) = z ∧ z = xpn f a - qm f + 1 ∧ 0 ≤ z ∧ z ≤ 3000 := by
    refine ⟨_, rfl, ?_, ?_, ?_⟩
    · unfold xpn qm
      split <;> split <;> omega
    · split <;> omega
    · split <;> omega
  obtain ⟨z, hz, hz1, hz2, hz3⟩ := hmax
  have e1 : IntKind.wrap .i64 (z - 1) = z - 1 := wrapI (by omega)
  have e2 : IntKind.wrap .i64 (z - 1 + (1 - (fX f : Int))) = z - 1 + (1 - (fX f : Int)) := wrapI (by omega)
  have e3 : IntKind.wrap .i64 (z - 1 + (1 - (fX f : Int)) - (fP f : Int)) = z - 1 + (1 - (fX f : Int)) - (fP f : Int) := wrapI (by omega)
  have e4 : IntKind.wrap .i64 (z - 1 + (1 - (fX f : Int)) - (fP f : Int) + 1) = xpn f a := by
    rw [wrapI (by omega), hz1]; unfold qm; omega
  have p51' := p51
  unfold dy at p51'
  rw [Dw_one] at p51'
  simp only [pre82 p82, fun82 p82, cond_true, bne_self_eq_false, cond_false, pre53 p53, fun53 p53, hi, pre69 p69, fun69 p69, pre98 p98, fun98 p98, r2, r3, ew, hz, e1, e2, e3, e4, pre51 p51', fun51 p51']
theorem abs_succ {f : Int} (hf : Fm f) {a b : Nat} (h : absF f b = absF f a + 1) : (vA f b).natAbs = (vA f a).natAbs + 2 ^ (eF f a - 1) ∧ eF f a ≤ eF f b := by
  rw [vA_abs, vA_abs, uE_eq, uE_eq]
  have hpp := Nat.two_pow_pos (fP f - 1)
  have ea := abs_eq hf a
  have eb := abs_eq hf b
  have ma := mF_lt f a
  have mb := mF_lt f b
  unfold mant
  generalize eF f a = E at *
  generalize eF f b = E' at *
  generalize mF f a = M at *
  generalize mF f b = M' at *
  generalize 2 ^ (fP f - 1) = H at *
  rw [ea, eb] at h
  by_cases hM : M + 1 < H
  · have hE : E' = E := by
      have h1 : (M' + H * E') / H = E' := by rw [Nat.add_mul_div_left _ _ hpp, Nat.div_eq_of_lt mb, Nat.zero_add]
      have h2 : (M + 1 + H * E) / H = E := by rw [Nat.add_mul_div_left _ _ hpp, Nat.div_eq_of_lt hM, Nat.zero_add]
      rw [← h1, ← h2]; congr 1; omega
    subst hE
    have hM' : M' = M + 1 := by omega
    subst hM'
    refine ⟨?_, Nat.le_refl _⟩
    split
    · rw [Nat.add_mul, Nat.one_mul]
    · rw [show M + 1 + H = (M + H) + 1 by omega, Nat.add_mul (M + H), Nat.one_mul]
  · have hM2 : M + 1 = H := by omega
    have h3 : M' + H * E' = H * (E + 1) := by rw [Nat.mul_add, Nat.mul_one]; omega
    have hE : E' = E + 1 := by
      have h1 : (M' + H * E') / H = E' := by rw [Nat.add_mul_div_left _ _ hpp, Nat.div_eq_of_lt mb, Nat.zero_add]
      rw [← h1, h3, Nat.mul_div_cancel_left _ hpp]
    subst hE
    have hM' : M' = 0 := by omega
    subst hM'
    refine ⟨?_, by omega⟩
    rw [if_neg (by omega), Nat.zero_add, Nat.add_sub_cancel]
    by_cases hE0 : E = 0
    · subst hE0
      rw [if_pos rfl]; simp; omega
    · obtain ⟨d, rfl⟩ : ∃ d, E = d + 1 := ⟨E - 1, by omega⟩
      rw [if_neg hE0, Nat.add_sub_cancel, Nat.pow_succ]
      have : M + H = H * 2 - 1 := by omega
      have e : H * (2 ^ d * 2) = (H * 2) * 2 ^ d := by rw [Nat.mul_assoc, Nat.mul_comm (2 ^ d)]
      rw [e]
      have : H * 2 = M + H + 1 := by omega
      rw [this, Nat.add_mul (M + H), Nat.one_mul]
theorem val_pos {f : Int} (hf : Fm f) {a : Nat} (h : 0 ≤ place f a) : vA f a = ((vA f a).natAbs : Int) := by
  unfold place at h
  cases hs : sF f a
  · unfold vA vI; rw [hs]; simp only [cond_false]; omega
  · rw [hs] at h
    simp only [cond_true] at h
    have h0 := abs_zero_mant hf (a := a) (by omega)
    have : vA f a = 0 := by unfold vA; rw [h0, vI_zero]
    rw [this]; rfl
theorem val_neg' {f : Int} (hf : Fm f) {a : Nat} (h : place f a ≤ 0) : vA f a = -((vA f a).natAbs : Int) := by
  unfold place at h
  cases hs : sF f a
  · rw [hs] at h
    simp only [cond_false] at h
    have h0 := abs_zero_mant hf (a := a) (by omega)
    have : vA f a = 0 := by unfold vA; rw [h0, vI_zero]
    rw [this]; rfl
  · unfold vA vI; rw [hs]; simp only [cond_true]; omega
/-- neighbours are an ulp apart -/
theorem step_val {f : Int} (hf : Fm f) {a b : Nat} (h : place f b = place f a + 1) :
    (vA f b - vA f a = ((2 ^ (eF f a - 1) : Nat) : Int) ∧ eF f a ≤ eF f b) ∨ (vA f b - vA f a = ((2 ^ (eF f b - 1) : Nat) : Int) ∧ eF f b ≤ eF f a) := by
  have pa := place_abs f a
  have pb := place_abs f b
  by_cases h0 : 0 ≤ place f a
  · left
    obtain ⟨s1, s2⟩ := abs_succ hf (a := a) (b := b) (by omega)
    have v1 := val_pos hf h0
    have v2 := val_pos hf (a := b) (by omega)
    exact ⟨by omega, s2⟩
  · right
    obtain ⟨s1, s2⟩ := abs_succ hf (a := b) (b := a) (by omega)
    have v1 := val_neg' hf (a := a) (by omega)
    have v2 := val_neg' hf (a := b) (by omega)
    exact ⟨by omega, s2⟩
theorem T11_true (f : Int) {a : Nat} (ha : a < 2 ^ 64) : T11 (f, (a : Int), ()) = some (true, ()) := by
  show t11 S16.pre S16.F S41.pre S41.F S42.pre S42.F S14.pre S14.F S43.pre S43.F S44.pre S44.F S45.pre S45.F S40.pre S40.F S46.pre S46.F f a = _
  unfold t11
  have p41 := T41_eq (f := f) ha
  unfold stepF at p41
  by_cases hca : chk f a = 0
  · obtain ⟨hf, _⟩ := chk_zero hca
    rw [if_neg (by simpa using hca)] at p41
    by_cases fa : eF f a = fullF f
    · have p40 := T40_full hca fa
      simp only [pre16 t16_true, fun16 t16_true, cond_true, Bool.not_true, cond_false, pre40 p40, fun40 p40, pre41 p41, fun41 p41]
      cases snan f a <;> rfl
    · obtain ⟨w1, w2, w3⟩ := part_vals fa
      obtain ⟨p40, _⟩ := val_cd hca fa
      have hc9 : (cls f a == 2 || cls f a == 9) = false := by rw [cls_isInf]; exact w3
      simp only [Bool.or_eq_false_iff] at hc9
      obtain ⟨n1, n2⟩ := next_place hca w1 (w := 1) (.inl rfl) (by rw [hc9.1, hc9.2]; rfl)
      have kb := next_chk hca w1 (w := 1) (.inl rfl)
      have e41 : stepP f a 1 = nextF f a 1 := by unfold stepP; rw [w1]; rfl
      rw [e41, w2, cond_false] at p41
      generalize nextF f a 1 = b at *
      have pla := place_le hf w1
      have plb := place_le hf n2
      have hpos := infF_pos hf
      have p42 := T42_eq (f := f) (pat_lt kb)
      unfold stepF at p42
      rw [if_neg (by simpa using kb), snan_nan n2, cond_false] at p42
      have hb2 : (cls f b == 2) = false := by
        cases hcc : (cls f b == 2)
        · rfl
        · exfalso
          have habs := cls_inf' hf (a := b) (.inr rfl) (beq_iff_eq.1 hcc)
          have hsg : sF f b = true := by
            have := cls_inf hf habs
            rw [beq_iff_eq.1 hcc] at this
            cases hs : sF f b
            · rw [hs] at this; cases this
            · rfl
          have : place f b = -(infF f : Int) := by unfold place; rw [hsg, habs]; rfl
          omega
      obtain ⟨d1, d2⟩ := next_place kb n2 (w := -1) (.inr rfl) (by rw [hb2]; cases cls f b == 9 <;> rfl)
      have kd := next_chk kb n2 (w := -1) (.inr rfl)
      have e42 : stepP f b (-1) = nextF f b (-1) := by unfold stepP; rw [n2]; rfl
      rw [e42] at p42
      generalize nextF f b (-1) = k at *
      have c1 := T14_eq (f := f) ha (pat_lt kb) true
      have c2 := T14_eq (f := f) ha (pat_lt kd) true
      have hk1 : chk2 f a b = 0 := by unfold chk2; rw [if_pos hca]; exact kb
      have hk2 : chk2 f a k = 0 := by unfold chk2; rw [if_pos hca]; exact kd
      unfold cmpF at c1 c2
      rw [if_neg (by simpa using hk1), w1, n2, Bool.or_self, cond_false, if_pos (by omega)] at c1
      rw [if_neg (by simpa using hk2), w1, d2, Bool.or_self, cond_false, if_neg (by omega), if_neg (by omega)] at c2
      have z0 : ((0 : Int) != 0) = false := rfl
      have z1 : ((1 : Int) != 1) = false := rfl
      simp only [pre16 t16_true, fun16 t16_true, cond_true, Bool.not_true, cond_false, pre40 p40, fun40 p40, pre41 p41, fun41 p41, z0, z1, pre42 p42, fun42 p42, pre14 c1, fun14 c1, pre14 c2, fun14 c2, Bool.or_self]
      by_cases fb : eF f b = fullF f
      · have q40 := T40_full kb fb
        have p43 := T43_ok hf false
        have hib : isInf f b = true := by rw [num_full n2]; exact decide_eq_true fb
        have pbi := place_inf hf hib
        have hsb : sF f b = false := by
          cases hs : sF f b
          · rfl
          · exfalso
            rw [hs] at pbi; simp only [cond_true] at pbi
            have := inf_of_place hf (a := a) (by omega)
            rw [w3] at this; cases this
        rw [hsb, cond_false] at pbi
        have h2 : 2 ≤ infF f := by
          rw [inf_ge hf]
          have := Nat.mul_le_mul (show 2 ≤ 2 * fX f + 1 by have := fX_ge hf; omega) (Nat.two_pow_pos (fP f - 1))
          omega
        have haa : a = infB f false - 1 := by
          have hpat := pat_mk hca
          have habs := place_abs f a
          have hsa : sF f a = false := by
            cases hs : sF f a
            · rfl
            · exfalso
              have : place f a = -(absF f a : Int) := by unfold place; rw [hs]; rfl
              omega
          rw [infB_eq]
          unfold mkF at hpat
          unfold sgnF
          rw [hsa, cond_false] at hpat
          simp only [Bool.false_eq_true, if_false]
          omega
        simp only [pre40 q40, fun40 q40, cond_true, show ((40 : Int) != 0) = true from rfl, pre43 p43, fun43 p43, ← haa, beq_self_eq_true, Bool.and_self]
      · obtain ⟨q40, _⟩ := val_cd kb fb
        obtain ⟨u, g, p45, u1, u2, u3⟩ := T45_fin hca fa
        obtain ⟨v, g', p45', v1, v2, v3⟩ := T45_fin kb fb
        obtain ⟨r40, _⟩ := val_cd u1 u2
        obtain ⟨r40', _⟩ := val_cd v1 v2
        rw [u3] at r40
        rw [v3] at r40'
        have ba := vA_bound hf a
        have bb := vA_bound hf b
        have big : (2 : Nat) ^ 2100 * 8 ≤ 2 ^ 5000 := by
          rw [show (8 : Nat) = 2 ^ 3 from rfl, ← Nat.pow_add]
          exact Nat.pow_le_pow_right (by decide) (by decide)
        have eu : 2 ^ (eF f a - 1) ≤ 2 ^ 2100 := Nat.pow_le_pow_right (by decide) (by have := eF_lt hf a; omega)
        have ev : 2 ^ (eF f b - 1) ≤ 2 ^ 2100 := Nat.pow_le_pow_right (by decide) (by have := eF_lt hf b; omega)
        have hst := step_val hf n1
        have hmono : ∀ x y : Nat, x ≤ y → 2 ^ (x - 1) ≤ 2 ^ (y - 1) := fun x y h => Nat.pow_le_pow_right (by decide) (by omega)
        have hm1 := hmono (eF f a) (eF f b)
        have hm2 := hmono (eF f b) (eF f a)
        have s44 := sub_cd hf (S := vA f b) (T := vA f a) (by omega) (by omega)
        have s46 := cmp_cd hf (S := vA f b - vA f a) (T := ((2 ^ (eF f a - 1) : Nat) : Int)) (by omega) (by omega)
        have s46' := cmp_cd hf (S := vA f b - vA f a) (T := ((2 ^ (eF f b - 1) : Nat) : Int)) (by omega) (by omega)
        simp only [pre40 q40, fun40 q40, cond_true, z0, cond_false, pre44 s44, fun44 s44, pre45 p45, fun45 p45, pre45 p45', fun45 p45', pre40 r40, fun40 r40, pre40 r40', fun40 r40', pre46 s46, fun46 s46, pre46 s46', fun46 s46', beq_self_eq_true, Bool.true_and, Bool.and_true]
        generalize vA f b - vA f a = d at *
        rcases hst with ⟨e1, e2⟩ | ⟨e1, e2⟩
        · have hle := hm1 e2
          rw [if_pos e1]
          by_cases hq : d = ((2 ^ (eF f b - 1) : Nat) : Int)
          · rw [if_pos hq]; rfl
          · rw [if_neg hq, if_pos (by omega)]; rfl
        · have hle := hm2 e2
          rw [if_pos e1]
          by_cases hq : d = ((2 ^ (eF f a - 1) : Nat) : Int)
          · rw [if_pos hq]; rfl
          · rw [if_neg hq, if_pos (by omega)]; rfl
  · rw [if_pos hca] at p41
    have p40 := T40_bad ha hca
    have hne : (chk f a != 0) = true := by simpa using hca
    simp only [pre16 t16_true, fun16 t16_true, cond_true, Bool.not_true, cond_false, pre40 p40, fun40 p40, pre41 p41, fun41 p41, hne]
    rfl
end VL
namespace Vx
open Go Go.RowKit Go.ChangeShapes Go.WideShapes
/-- numbers in their ranges, lengths below 2^63 -/
def wfD : (τ : Shape) → Den τ → Prop
  | .int k, n => k.min ≤ n ∧ n ≤ k.max
  | .slice e, xs => xs.length < lim ∧ ∀ x ∈ xs, wfD e x
  | .pair a b, x => wfD a x.1 ∧ wfD b x.2
  | .bool, _ => True
  | .str, _ => True
  | .fn, _ => True
  | .unit, _ => True
theorem DRep.wfD {w : World} {S : Nat → Prop} : ∀ {τ : Shape} {x : Den τ} {cs : List Value}, DRep w S τ x cs → wfD τ x
  | .int _, _, _, h => h.2
  | .bool, _, _, _ => trivial
  | .str, _, _, _ => trivial
  | .fn, _, _, _ => trivial
  | .unit, _, _, _ => trivial
  | .slice _, xs, _, ⟨A, c, _, h1, h2, h3⟩ => by
    refine ⟨Nat.lt_of_le_of_lt h1 h2, fun x hx => ?_⟩
    obtain ⟨r, o, vs, T, fz, _, _, _, h⟩ := h3 (List.ne_nil_of_mem hx)
    obtain ⟨i, hi⟩ := List.getElem?_of_mem hx
    obtain ⟨ds, hd, _⟩ := h i x hi
    exact hd.wfD
  | .pair _ _, _, _, ⟨c1, c2, _, h1, h2⟩ => ⟨h1.wfD, h2.wfD⟩
def wfS : (sg : Sig) → DenS sg → Prop
  | [], _ => True
  | (_, τ) :: r, x => wfD τ x.1 ∧ wfS r x.2
/-- what a datum says -/
def undat {H : Type} : (τ : Shape) → (DataW H → Option (Den τ)) × (List (DataW H) → Option (Den τ))
  | .int k => (fun d => match d with | .lit (.int k' n) => if k' = k then some n else none | _ => none, fun _ => none)
  | .bool => (fun d => match d with | .lit (.bool b) => some b | _ => none, fun _ => none)
  | .unit => (fun d => match d with | .agg [] => some () | _ => none, fun l => match l with | [] => some () | _ => none)
  | .pair a b =>
    let f := fun l => match l with
      | d :: r => (match (undat a).1 d, (undat b).2 r with | some x, some y => some (x, y) | _, _ => none)
      | [] => none
    (fun d => match d with | .agg l => f l | _ => none, f)
  | .str => (fun _ => none, fun _ => none)
  | .fn => (fun _ => none, fun _ => none)
  | .slice _ => (fun _ => none, fun _ => none)
/-- a type's shape -/
def fitF (P : Program) (g : TypeId → Shape → Bool) : List Field → Nat → Shape → Bool
  | [], _, .unit => true
  | f :: fs, o, .pair a b => (f.offset == o) && (P.cellsOf f.type == a.width) && g f.type a && fitF P g fs (o + a.width) b
  | _, _, _ => false
def fitB (P : Program) : Nat → TypeId → Shape → Bool
  | 0, _, _ => false
  | n + 1, t, τ => match P.underlying t with
    | some (.int k) => (match τ with | .int k' => decide (k = k') | _ => false)
    | some .bool => (match τ with | .bool => true | _ => false)
    | some (.slice e) => (match τ with | .slice σ => (P.cellsOf e == σ.width) && decide (0 < σ.width) && fitB P n e σ | _ => false)
    | some (.struct fs) => (P.cellsOf t == τ.width) && fitF P (fitB P n) fs.toList 0 τ
    | _ => false
theorem choose_list {A : Type} {Q : Nat → A → Prop} : ∀ (n : Nat), (∀ i, i < n → ∃ x, Q i x) → ∃ xs : List A, xs.length = n ∧ ∀ i x, xs[i]? = some x → Q i x
  | 0, _ => ⟨[], rfl, fun i x h => by simp at h⟩
  | n + 1, h => by
    obtain ⟨xs, h1, h2⟩ := choose_list n fun i hi => h i (by omega)
    obtain ⟨x, hx⟩ := h n (by omega)
    refine ⟨xs ++ [x], by simp [h1], fun i y hy => ?_⟩
    rcases Nat.lt_or_ge i n with hi | hi
    · rw [List.getElem?_append_left (by omega)] at hy
      exact h2 i y hy
    · rw [List.getElem?_append_right (by omega)] at hy
      have : i = n := by
        have := (List.getElem?_eq_some_iff.1 hy).1
        simp at this; omega
      subst this
      simp [h1] at hy
      exact hy ▸ hx
theorem wf_int {k : IntKind} {n : Int} (h : (Lit.int k n).wf = true) : k.min ≤ n ∧ n ≤ k.max := by
  simpa [Lit.wf] using h
section
variable {H : Type} {enc : TypeId × Value → H} {P : Program} {W : World} {spare : Nat → Bool} {held : Bool}
theorem fitF_ok {n : Nat} {m : Nat} {cs : List Value} (ih : ∀ (t : TypeId) (τ : Shape) (cs : List Value) (d : DataW H) (p : List MemPlace), fitB P n t τ = true → DataW.trod enc P W 0 spare held m t cs = some (d, p) → ∃ x : Den τ, DRep W (fun q => q < W.heap.size) τ x cs ∧ ∀ y, (undat τ).1 d = some y → x = y) :
    ∀ (l : List Field) (o : Nat) (τ : Shape) (xs : List (DataW H × List MemPlace)), fitF P (fitB P n) l o τ = true → xs.length = l.length → cs.length = o + τ.width →
      (∀ (i : Nat) (f : Field), l[i]? = some f → DataW.trod enc P W 0 spare held m f.type ((cs.drop f.offset).take (P.cellsOf f.type)) = xs[i]?) →
      ∃ x : Den τ, DRep W (fun q => q < W.heap.size) τ x (cs.drop o) ∧ ∀ y, (undat τ).2 (xs.map (·.1)) = some y → x = y
  | [], o, τ, xs, hf, hx, hl, _ => by
    cases τ <;> simp [fitF] at hf
    refine ⟨(), ?_, fun _ _ => rfl⟩
    show cs.drop o = []
    apply List.drop_eq_nil_of_le
    simp [Shape.width] at hl
    omega
  | f :: fs, o, τ, xs, hf, hx, hl, h => by
    cases τ with
    | pair a b =>
      simp only [fitF, Bool.and_eq_true, beq_iff_eq] at hf
      obtain ⟨⟨⟨ho, hc⟩, hg⟩, hr⟩ := hf
      cases xs with
      | nil => simp at hx
      | cons x0 xs =>
        have h0 := h 0 f rfl
        rw [ho, hc] at h0
        simp only [List.getElem?_cons_zero] at h0
        obtain ⟨xa, ha, hua⟩ := ih f.type a _ x0.1 x0.2 hg h0
        simp only [Shape.width] at hl
        obtain ⟨xb, hb, hub⟩ := fitF_ok ih fs (o + a.width) b xs hr (by simpa using hx) (by rw [hl]; omega) fun i g hi => by
          have := h (i + 1) g (by simpa using hi)
          simpa using this
        refine ⟨(xa, xb), ⟨(cs.drop o).take a.width, cs.drop (o + a.width), ?_, ha, hb⟩, fun y hy => ?_⟩
        · rw [← List.drop_drop, List.take_append_drop]
        · simp only [undat, List.map_cons] at hy
          split at hy
          · rename_i e1 e2
            have := hua _ e1; have := hub _ e2
            subst_vars
            exact Option.some.inj hy
          · cases hy
    | _ => simp [fitF] at hf
theorem fit_ok : ∀ (n : Nat) (m : Nat) (t : TypeId) (τ : Shape) (cs : List Value) (d : DataW H) (p : List MemPlace), fitB P n t τ = true → DataW.trod enc P W 0 spare held m t cs = some (d, p) →
    ∃ x : Den τ, DRep W (fun q => q < W.heap.size) τ x cs ∧ ∀ y, (undat τ).1 d = some y → x = y
  | 0, _, _, _, _, _, _, h, _ => by simp [fitB] at h
  | n + 1, m, t, τ, cs, d, p, h, ht => by
    unfold fitB at h
    split at h
    · rename_i k hk
      cases τ with
      | int k' =>
        simp only [decide_eq_true_eq] at h
        subst h
        obtain ⟨v, hv, hx, hw⟩ := DataW.trod_int hk ht
        simp only [Prod.mk.injEq] at hx
        refine ⟨v, ⟨hv, wf_int hw⟩, fun y hy => ?_⟩
        rw [hx.1] at hy
        simp only [undat, if_true] at hy
        exact Option.some.inj hy
      | _ => cases h
    · rename_i hk
      cases τ with
      | bool =>
        obtain ⟨v, hv, hx⟩ := DataW.trod_bool hk ht
        simp only [Prod.mk.injEq] at hx
        refine ⟨v, hv, fun y hy => ?_⟩
        rw [hx.1] at hy
        simp only [undat] at hy
        exact Option.some.inj hy
      | _ => cases h
    · rename_i e hk
      cases τ with
      | slice σ =>
        simp only [Bool.and_eq_true, beq_iff_eq, decide_eq_true_eq] at h
        obtain ⟨⟨hc, hpos⟩, hf⟩ := h
        rcases DataW.trod_slice hk ht with ⟨hcs, hx⟩ | ⟨a, len, cap, elems, rest, m', rfl, hcs, hx, hb, hlc, hcap, hlen, hel, _⟩
        · exact ⟨[], ⟨none, 0, hcs, Nat.le_refl _, by decide, fun h => absurd rfl h⟩, fun y hy => by simp [undat] at hy⟩
        · have each : ∀ i, i < len → ∃ x : Den σ, ∃ ds, W.cells? 0 (a.add (i * P.cellsOf e)) (P.cellsOf e) = some ds ∧ DRep W (fun q => q < W.heap.size) σ x ds := fun i hi => by
            have := hel i hi
            rw [List.getElem?_eq_getElem (by omega), Option.bind_eq_some_iff] at this
            obtain ⟨ds, h1, h2⟩ := this
            obtain ⟨x, hx, _⟩ := fit_ok n m' e σ ds (elems[i]'(by omega)).1 (elems[i]'(by omega)).2 hf h2
            exact ⟨x, ds, h1, hx⟩
          obtain ⟨xs, hxl, hxs⟩ := choose_list len each
          refine ⟨xs, ⟨some a, cap, by rw [hxl]; exact hcs, by omega, by unfold lim; unfold maxLen at hcap; omega, fun hne => ?_⟩, fun y hy => by simp [undat] at hy⟩
          have h0 : 0 < xs.length := List.length_pos_iff.2 hne
          obtain ⟨ds0, hd0, _⟩ := hxs 0 xs[0] (List.getElem?_eq_getElem h0)
          obtain ⟨_, hl0, hc0⟩ := World.cells?_some hd0
          have hz : a.add (0 * P.cellsOf e) = a := by simp [Addr.add]
          have hz' : a.add 0 = a := by simp [Addr.add]
          rw [hz] at hc0
          have hc00 := hc0 0 (by omega)
          rw [hz', List.getElem?_eq_getElem (by omega)] at hc00
          unfold World.cell? at hc00
          split at hc00
          · rename_i c T fz hheap
            split at hc00
            · cases hc00
            · rename_i hspot
              have hs : a.spot = none := by simpa using hspot
              have hadd : ∀ q, a.add q = ⟨a.block, a.off + q, none⟩ := fun q => by
                unfold Addr.add
                split
                · subst_vars; cases a; simp at hs; simp [hs]
                · rfl
              have ha : a = ⟨a.block, a.off, none⟩ := by cases a; simp at hs; simp [hs]
              refine ⟨a.block, a.off, c, T, fz, by rw [← ha], ?_, hheap, fun i x hi => ?_⟩
              · exact (Array.getElem?_eq_some_iff.1 hheap).1
              · obtain ⟨ds, hd, hr⟩ := hxs i x hi
                refine ⟨ds, hr, fun j v hj => ?_⟩
                obtain ⟨_, hl, hcj⟩ := World.cells?_some hd
                have hjl : j < P.cellsOf e := by rw [← hl]; exact (List.getElem?_eq_some_iff.1 hj).1
                have := hcj j hjl
                rw [hadd, hj] at this
                have hadd2 : (⟨a.block, a.off + i * P.cellsOf e, none⟩ : Addr).add j = ⟨a.block, a.off + i * P.cellsOf e + j, none⟩ := by
                  unfold Addr.add
                  split
                  · subst_vars; rfl
                  · rfl
                rw [hadd2] at this
                unfold World.cell? at this
                simp only [hheap] at this
                rw [hc] at this
                exact this
          · cases hc00
      | _ => cases h
    · rename_i fs hk
      simp only [Bool.and_eq_true, beq_iff_eq] at h
      obtain ⟨hc, hf⟩ := h
      obtain ⟨xs, m', rfl, hx, hl, hxl, hel⟩ := DataW.trod_struct hk ht
      simp only [Prod.mk.injEq] at hx
      obtain ⟨x, h1, h2⟩ := fitF_ok (fun t τ cs d p => fit_ok n m' t τ cs d p) fs.toList 0 τ xs hf (by simpa using hxl) (by rw [hl, hc]; omega) fun i f hi => hel i f (by simpa using hi)
      refine ⟨x, by simpa using h1, fun y hy => h2 y ?_⟩
      rw [hx.1] at hy
      cases τ with
      | pair a b => exact hy
      | unit =>
        simp only [undat] at hy ⊢
        split at hy
        · rename_i e; simp only [DataW.agg.injEq] at e; rw [e]
        · cases hy
      | _ => simp [undat] at hy
    · cases h
end
end Vx
namespace Vx
open Go Go.RowKit Go.ChangeShapes Go.WideShapes
def isStruct (P : Program) (t : TypeId) : Bool := match P.underlying t with
  | some (.struct _) => true
  | _ => false
def fitS (P : Program) (n : Nat) : List TypeId → Sig → Bool
  | [], [] => true
  | t :: ts, (a, τ) :: r => fitB P n t τ && (a == isStruct P t) && fitS P n ts r
  | _, _ => false
section
variable {H : Type} {enc : TypeId × Value → H} {P : Program} {W : World}
theorem cells_one {n : Nat} {t : TypeId} {τ : Shape} {r : Reach} {b0 : Nat} {v : Value} (hf : fitB P n t τ = true) (hs : isStruct P t = false) (hv : Value.okWide P W r b0 t v) : v.cells.toList = [v] := by
  cases n with
  | zero => simp [fitB] at hf
  | succ n =>
    unfold fitB at hf
    split at hf
    · rename_i k hk; obtain ⟨_, rfl⟩ := okWide_int hk hv; rfl
    · rename_i hk; obtain ⟨_, rfl⟩ := okWide_bool hk hv; rfl
    · rename_i e hk; obtain ⟨_, _, _, rfl⟩ := okWide_slice hk hv; rfl
    · rename_i fs hk; simp [isStruct, hk] at hs
    · cases hf
theorem erep_plain {S : Nat → Prop} {a : Bool} {τ : Shape} {x : Den τ} {y : Value} (ho : ownE a τ = false) (h : PRep W S a τ x y) : ERep W S a τ x y [] := by
  cases τ with
  | slice e =>
    cases a with
    | true => cases ho
    | false => exact ⟨rfl, h⟩
  | _ => exact ⟨rfl, h⟩
theorem args_ok {n : Nat} {sp : Nat → Bool} {held : Bool} {b0 : Nat} : ∀ (ts : List TypeId) (I : Sig) (vs : List Value) (ds : List (DataW H)) (ps : List MemPlace), fitS P n ts I = true →
    (∀ (j : Nat) (t : TypeId) (v : Value), ts[j]? = some t → vs[j]? = some v → Value.okWide P W .any b0 t v) → DataW.TrodAll enc P W 0 sp held ts vs ds ps → ∃ x : DenS I, SRep W (fun q => q < W.heap.size) I x vs [] ∧ wfS I x ∧ ds.length = ts.length
  | [], [], vs, ds, ps, _, _, h => by
    cases vs <;> cases ds <;> simp [DataW.TrodAll] at h
    exact ⟨(), ⟨rfl, rfl⟩, trivial, rfl⟩
  | [], _ :: _, _, _, _, hf, _, _ => by simp [fitS] at hf
  | _ :: _, [], _, _, _, hf, _, _ => by simp [fitS] at hf
  | t :: ts, (a, τ) :: I, vs, ds, ps, hf, hv, h => by
    cases vs with
    | nil => simp [DataW.TrodAll] at h
    | cons v vs =>
      cases ds with
      | nil => simp [DataW.TrodAll] at h
      | cons d ds =>
        obtain ⟨p, q, ⟨m, hp⟩, hq, _⟩ := h
        simp only [fitS, Bool.and_eq_true, beq_iff_eq] at hf
        obtain ⟨⟨h1, h2⟩, h3⟩ := hf
        obtain ⟨x, hx, hw, hl⟩ := args_ok ts I vs ds q h3 (fun j t v ht hv' => hv (j + 1) t v (by simpa using ht) (by simpa using hv')) hq
        obtain ⟨y, hy, _⟩ := fit_ok n m t τ _ d p h1 hp
        have hok := hv 0 t v rfl rfl
        refine ⟨(y, x), ⟨v, vs, [], [], rfl, rfl, erep_plain ?_ ?_, hx⟩, ⟨hy.wfD, hw⟩, by simp [hl]⟩
        · cases τ with
          | slice σ =>
            show a = false
            rw [h2]
            cases n with
            | zero => simp [fitB] at h1
            | succ n =>
              unfold fitB at h1
              unfold isStruct
              split at h1 <;> rename_i hk <;> first | (rw [hk]; done) | (simp only [hk]; done) | (simp [fitF] at h1; done) | skip
          | _ => rfl
        cases a with
        | true =>
          have hs : isStruct P t = true := h2.symm
          unfold isStruct at hs
          split at hs
          · rename_i fs hk
            unfold Value.okWide at hok
            rw [hk] at hok
            obtain ⟨cs, rfl, _⟩ := hok
            exact ⟨cs.toList, by simp, hy⟩
          · cases hs
        | false =>
          have hs : isStruct P t = false := h2.symm
          rw [cells_one h1 hs hok] at hy
          exact hy
theorem trodAll_below (hl : laidOutB P = true) {W' : World} (hb : Below W.heap.size W W') : ∀ (ts : List TypeId) (vs : List Value) (ds : List (DataW H)) (ps : List MemPlace), (ts.all fun t => P.readableRec t && decide (t < P.types.size)) = true →
    DataW.TrodAll enc P W 0 (fun _ => true) true ts vs ds ps → (∀ x ∈ ps, x.block < W.heap.size) → DataW.TrodAll enc P W' 0 (fun b => decide (b < W.heap.size)) true ts vs ds ps
  | [], vs, ds, ps, _, h, _ => by
    cases vs <;> cases ds <;> simp [DataW.TrodAll] at h ⊢
    exact h
  | t :: ts, vs, ds, ps, hr, h, hlt => by
    cases vs with
    | nil => simp [DataW.TrodAll] at h
    | cons v vs =>
      cases ds with
      | nil => simp [DataW.TrodAll] at h
      | cons d ds =>
        obtain ⟨p, q, hp, hq, rfl⟩ := h
        simp only [List.all_cons, Bool.and_eq_true, decide_eq_true_eq] at hr
        exact ⟨p, q, Below.trod hl hr.1.1 hr.1.2 hp hb (fun x hx => hlt x (List.mem_append.2 (.inl hx))),
          trodAll_below hl hb ts vs ds q hr.2 hq (fun x hx => hlt x (List.mem_append.2 (.inr hx))), rfl⟩
/-- a table that is laid -/
theorem glob_of {n : String} {g : Nat} {t e : TypeId} {m k : Nat} {τ : Shape} {ds : List (DataW Unit)} {xs : List (Den τ)} {r : List (String × DataW Unit)} {ps : List MemPlace}
    (hL : DataW.LaidVars P W ((n, .agg ds) :: r) ps) (hg : P.globalNamed n = some g) (ht : (P.globals[g]?).map (·.type) = some t) (hu : P.underlying t = some (.array m e)) (hc : P.cellsOf e = τ.width) (hf : fitB P k e τ = true)
    (hx : ds.map (undat τ).1 = xs.map some) :
    (g < W.heap.size ∧ ∃ vs T fz, W.heap[g]? = some (.cells vs T fz) ∧ Rows W (fun q => q < W.heap.size) τ vs 0 xs) ∧ ∃ ps', DataW.LaidVars P W r ps' := by
  obtain ⟨g', t', cs, fuel, p, q, h1, h2, h3, h4, h5, _⟩ := hL
  rw [hg] at h1; cases h1
  rw [ht] at h2; cases h2
  refine ⟨?_, q, h5⟩
  unfold World.var? at h3
  rw [hg] at h3
  simp only [Option.bind_some] at h3
  split at h3
  · rename_i c T fz hh
    cases h3
    refine ⟨(Array.getElem?_eq_some_iff.1 hh).1, cs, T, fz, hh, ?_⟩
    obtain ⟨ys, m', rfl, hy, hl, hyl, hel⟩ := DataW.trod_array hu h4
    simp only [Prod.mk.injEq, DataW.agg.injEq] at hy
    intro i x hi
    have hxl : xs.length = m := by
      have := congrArg List.length hx
      simp [hy.1, hyl] at this
      omega
    have him : i < m := by rw [← hxl]; exact (List.getElem?_eq_some_iff.1 hi).1
    have he := hel i him
    have hyi : ys[i]? = some (ys[i]'(by omega)) := List.getElem?_eq_getElem (by omega)
    rw [hyi, hc] at he
    obtain ⟨x', h6, h7⟩ := fit_ok k m' e τ _ _ _ hf he
    have hd : (undat τ).1 (ys[i]'(by omega)).1 = some x := by
      have := congrArg (·[i]?) hx
      simp only [List.getElem?_map, hy.1, hyi, hi, Option.map_some] at this
      exact Option.some.inj this
    have := h7 x hd
    subst this
    refine ⟨_, h6, fun j v hj => ?_⟩
    rw [List.getElem?_take] at hj
    split at hj
    · rw [List.getElem?_drop] at hj
      simpa using hj
    · cases hj
  · cases h3
theorem returns_true {G : List (Nat × Sigma fun τ => List (Den τ))} {f : FuncId} {I : Sig} {T : DenS I → Option (DenS [(false, .bool)])} {d : DenS [(false, .bool)]} (hS : Sound P G f (sumOf I [(false, .bool)] T d)) {x : DenS I} (hT : T x = some (true, ())) (hcal : ∃ fn, P.funcs[f]? = some fn ∧ fn.body.isNone = false ∧ (fn.name == "runtime.NumGoroutine") = false) {W : World} {args : Array Value}
    (hG : GlobsOk G W fun q => q < W.heap.size) (ha : SRep W (fun q => q < W.heap.size) I x args.toList []) : Calls P f args W fun e W' => e = .returned (.bool true) ∧ Below W.heap.size W W' := by
  have := hS.calls x (by show (T x).isSome = true; rw [hT]; rfl) W (fun q => q < W.heap.size) args.toList [] (fun q h => h) hG ha List.nodup_nil (fun r h => by simp at h)
  rw [Array.toArray_toList] at this
  have this := this.resolve_right (fun ⟨v, hv, _⟩ => by rw [run_callFunc hcal] at hv; cases hv)
  refine this.2.mono fun e W' ⟨zs, rs', he, hb, _, _, hz⟩ => ⟨?_, ⟨hb.os, hb.tape, hb.output, hb.size, fun k hk => hb.block k hk (fun h => by simp at h)⟩⟩
  obtain ⟨y, ys, r1, r2, rfl, _, ⟨_, h1⟩, rfl, _⟩ := hz
  have h2 : [y] = [Value.bool ((T x).getD d).1] := h1
  rw [hT] at h2
  cases h2
  exact he
/-- what a law's row asks -/
theorem law_post {G : List (Nat × Sigma fun τ => List (Den τ))} {f : FuncId} {fn : Func} {I : Sig} {T : DenS I → Option (DenS [(false, .bool)])} {d : DenS [(false, .bool)]} {s : ChangeSpec} {n : Nat} {tb : TypeId}
    (hS : Sound P G f (sumOf I [(false, .bool)] T d)) (hT : ∀ x, wfS I x → T x = some (true, ())) (hcal : ∃ fn, P.funcs[f]? = some fn ∧ fn.body.isNone = false ∧ (fn.name == "runtime.NumGoroutine") = false) (hlay : laidOutB P = true) (hfit : fitS P n fn.params.toList I = true)
    (hread : (fn.params.toList.all fun t => P.readableRec t && decide (t < P.types.size)) = true) (hres : fn.resultTypes = #[tb]) (hbool : P.underlying tb = some .bool) (hvars : s.vars = [])
    (hspec : ∀ ds : List (DataW H), ds.length = fn.params.toList.length → s.fn H ds = { results := [.lit (.bool true)], args := ds })
    {W : World} {base : Nat} {args : Array Value} {ds gs : List (DataW H)} {before : List MemPlace}
    (hval : ∀ (j : Nat) (t : TypeId) (v : Value), fn.params[j]? = some t → args[j]? = some v → Value.okWide P W .any base t v)
    (hW : DataW.Whole enc P fn.params.toList s.vars false W args.toList ds gs before) (hG : GlobsOk G W fun q => q < W.heap.size) :
    Calls P f args W fun e W' => ∃ v, e = .returned v ∧ ChangeSpec.post enc P fn s false true false false W args v W' := by
  have hW' := hW
  obtain ⟨p, q, hA, hV, rfl, _, _⟩ := hW
  rw [hvars] at hV
  obtain ⟨rfl, rfl⟩ := trodVars_none hV
  obtain ⟨x, hx, hw, hlen⟩ := args_ok (b0 := base) fn.params.toList I args.toList ds p hfit (fun j t v ht hv => hval j t v (by simpa using ht) (by simpa using hv)) hA
  refine (returns_true hS (hT x hw) hcal hG hx).mono fun e W' ⟨he, hb⟩ => ⟨.bool true, he, ds, [], p ++ [], [], p, [], hW', ?_, ?_, ?_, hb.frame _, fun h => by cases h⟩
  · rw [List.append_nil, hspec ds hlen, hres]
    exact trodAll_mk1 (shut_bool hbool true)
  · rw [List.append_nil, hspec ds hlen]
    exact trodAll_below hlay hb _ _ _ _ hread hA fun y hy => by simpa using hW'.lt y (by simpa using hy)
  · rw [List.append_nil, hspec ds hlen, hvars]
    rfl
end
theorem globs_nil {W : World} {S : Nat → Prop} : GlobsOk [] W S := fun _ _ _ h => by simp [findGlob] at h
theorem globs_cons {W : World} {S : Nat → Prop} {g : Nat} {τ : Shape} {xs : List (Den τ)} {G : List (Nat × Sigma fun τ => List (Den τ))} (h : S g ∧ ∃ vs T fz, W.heap[g]? = some (.cells vs T fz) ∧ Rows W S τ vs 0 xs) (r : GlobsOk G W S) :
    GlobsOk ((g, ⟨τ, xs⟩) :: G) W S := fun g' τ' xs' hf => by
  simp only [findGlob] at hf
  cases hb : Nat.beq g g' with
  | true =>
    have := Nat.eq_of_beq_eq_true hb
    subst this
    rw [hb] at hf
    simp only [cond_true, Option.some.injEq] at hf
    cases hf
    exact h
  | false =>
    rw [hb] at hf
    exact r g' τ' xs' hf
end Vx
