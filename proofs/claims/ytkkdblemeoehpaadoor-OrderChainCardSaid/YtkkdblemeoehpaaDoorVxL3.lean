/- The document's answers for layer 4, and comparison. -/
import Derived.Test.YtkkdblemeoehpaaDoorVxL2
namespace VL
open Go Vx

theorem T131_ok {f : Int} (h : Fm f) : T131 (f, ()) = some (rowOf f, true, ()) := by
  rcases Fm_cases h with rfl | rfl | rfl | rfl <;> kernel_rfl

theorem T131_bad {f : Int} (h : ¬ Fm f) : T131 (f, ()) = some ((0, 0, 0, 0, ()), false, ()) := by
  show t131 f = _
  unfold t131
  simp only [Fm] at h
  have h0 : (f == (0 : Int)) = false := by simp; omega
  have h1 : (f == (1 : Int)) = false := by simp; omega
  have h2 : (f == (2 : Int)) = false := by simp; omega
  have h3 : (f == (3 : Int)) = false := by simp; omega
  rw [h0, h1, h2, h3]; rfl

theorem T108_eq (f : Int) (a : Nat) (ha : a < 2 ^ 64) : T108 (f, (a : Int), ()) = some (chk f a, ()) := by
  show t108 S131.pre S131.F f a = _
  unfold t108
  by_cases hf : Fm f
  · simp only [pre131 (T131_ok hf), fun131 (T131_ok hf), cond_true, rowOf, Bool.not_true, cond_false]
    have hw := fW_le hf
    rw [wrapU (by omega), shrN _ _ hw, nbne0, div_ne_zero]
    show (bif decide ((fW f : Int) < ((64 : Nat) : Int)) && _ then _ else _) = _
    rw [nlt]
    by_cases h : a < 2 ^ fW f
    · have : (decide (fW f < 64) && decide (2 ^ fW f ≤ a)) = false := by simp; intro _; exact h
      rw [this, chk_ok hf h]; rfl
    · have : (decide (fW f < 64) && decide (2 ^ fW f ≤ a)) = true := by
        simp only [Bool.and_eq_true, decide_eq_true_eq]
        refine ⟨?_, by omega⟩
        rcases Nat.lt_or_ge (fW f) 64 with h1 | h1
        · exact h1
        · have : fW f = 64 := by omega
          rw [this] at h; omega
      rw [this, chk_big hf h]; rfl
  · simp only [pre131 (T131_bad hf), fun131 (T131_bad hf), cond_true, chk_bad hf]
    rfl

theorem T55_eq (f : Int) {a b : Nat} (ha : a < 2 ^ 64) (hb : b < 2 ^ 64) : T55 (f, (a : Int), (b : Int), ()) = some (chk2 f a b, ()) := by
  show t55 S108.pre S108.F f a b = _
  unfold t55 chk2
  have p0 := T108_eq f a ha
  have p1 := T108_eq f b hb
  simp only [pre108 p0, fun108 p0, pre108 p1, fun108 p1, cond_true]
  by_cases h : chk f a = 0
  · rw [if_pos h, h]; rfl
  · have : (chk f a != 0) = true := by simpa using h
    rw [if_neg h, this]; rfl

def sgn (f : Int) (a : Nat) : Nat := a / 2 ^ (fW f - 1) % 2

theorem full_eq {f : Int} (hf : Fm f) : IntKind.wrap .u64 (IntKind.wrap .i64 (IntKind.wrap .i64 (2 * (fX f : Int)) + 1)) = ((fullF f : Nat) : Int) := by
  have h := fX_le hf
  have e := fX_eq hf
  unfold fullF
  rw [wrapI (n := 2 * (fX f : Int)) (by omega), wrapI (by omega), wrapU (by omega)]
  omega

theorem T113_eq {f : Int} (hf : Fm f) {a : Nat} (ha : a < 2 ^ 64) : T113 (f, (a : Int), ()) = some ((sgn f a : Int), (eF f a : Int), (mF f a : Int), (fullF f : Int), ()) := by
  show t113 S131.pre S131.F f a = _
  unfold t113
  have h1 := fP_ge hf
  have h2 := fP_lt hf
  have h3 := fW_le hf
  have e1 : IntKind.wrap .i64 ((rowOf f).1 - 1) = ((fW f - 1 : Nat) : Int) := wsub (fW f) 1 (by omega) (by omega)
  have e2 : IntKind.wrap .i64 ((rowOf f).2.1 - 1) = ((fP f - 1 : Nat) : Int) := wsub (fP f) 1 (by omega) (by omega)
  have e5 : IntKind.wrap .u64 ((fW f - 1 : Nat) : Int) = ((fW f - 1 : Nat) : Int) := wrapU (by omega)
  have e6 : IntKind.wrap .u64 ((fP f - 1 : Nat) : Int) = ((fP f - 1 : Nat) : Int) := wrapU (by omega)
  have e7 : IntKind.wrap .u64 (IntKind.wrap .i64 (IntKind.wrap .i64 (2 * (rowOf f).2.2.2.1) + 1)) = ((2 ^ (fW f - fP f) - 1 : Nat) : Int) := full_eq hf
  have e8 : (((2 ^ (fP f - 1) : Nat) : Int) != 0) = true := by
    rw [nbne0]
    have := Nat.two_pow_pos (fP f - 1)
    simp only [bne_iff_ne, ne_eq]; omega
  simp only [pre131 (T131_ok hf), fun131 (T131_ok hf), cond_true, e1, e2, e5, e6, e7]
  rw [shlI_one (by omega), e8, cond_true, shrN _ _ (by omega), shrN _ _ (by omega), andI_mask (Nat.lt_of_le_of_lt (Nat.div_le_self _ _) ha) (by omega)]
  have e9 : andI .u64 ((a / 2 ^ (fW f - 1) : Nat) : Int) 1 = ((a / 2 ^ (fW f - 1) % 2 ^ 1 : Nat) : Int) := andI_mask (n := 1) (Nat.lt_of_le_of_lt (Nat.div_le_self _ _) ha) (by omega)
  rw [e9]
  rfl

theorem T109_eq {f : Int} (hf : Fm f) {a : Nat} (ha : a < 2 ^ 64) : T109 (f, (a : Int), ()) = some (nan f a, ()) := by
  show t109 S113.pre S113.F f a = _
  unfold t109
  have p0 := T113_eq hf ha
  simp only [pre113 p0, fun113 p0, cond_true, nbeq, nbne0]
  rfl

theorem T110_eq {f : Int} (hf : Fm f) {a : Nat} (ha : a < 2 ^ 64) : T110 (f, (a : Int), ()) = some (snan f a, ()) := by
  show t110 S131.pre S131.F S113.pre S113.F S109.pre S109.F f a = _
  unfold t110
  have h1 := fP_ge hf
  have h2 := fP_lt hf
  have h3 := fW_le hf
  have p0 := T113_eq hf ha
  have p1 := T109_eq hf ha
  have p2 := T131_ok hf
  have e4 : IntKind.wrap .i64 ((rowOf f).2.1 - 2) = ((fP f - 2 : Nat) : Int) := wsub (fP f) 2 (by omega) (by omega)
  have e5 : IntKind.wrap .u64 ((fP f - 2 : Nat) : Int) = ((fP f - 2 : Nat) : Int) := wrapU (by omega)
  simp only [pre113 p0, fun113 p0, pre109 p1, fun109 p1, pre131 p2, fun131 p2, cond_true, e4, e5]
  rw [shrN _ _ (by omega), nbeq0]
  rfl

/-- the flag of operands that aren't numbers -/
def nans (f : Int) (l : List Nat) : Bool × Int × Unit := (l.any (nan f), (bif l.any (snan f) then 1 else 0), ())

theorem snan_nan {f : Int} {a : Nat} (h : nan f a = false) : snan f a = false := by
  unfold snan; rw [h]; rfl

theorem W56_eq {f : Int} (hf : Fm f) (l : List Nat) (hl : ∀ a ∈ l, a < 2 ^ 64) (hlen : l.length < 1000000) (i : Nat) (s : Bool) (g : Int) (hi : i ≤ l.length) :
    W56_3 (((l.length : Int), (l.map (fun a : Nat => (a : Int)), (f, ((i : Int), (s, (g, ())))))), ()) = some (.inl ((s || (l.drop i).any (nan f), (bif (l.drop i).any (snan f) then 1 else g), ()), ())) := by
  have key := lfix_ind (m56_3 S109.pre S109.F S110.pre S110.F) (fun x => l.length - x.1.2.2.2.1.toNat)
    (fun x => ∃ (i : Nat) (s : Bool) (g : Int), i ≤ l.length ∧ x = (((l.length : Int), (l.map (fun a : Nat => (a : Int)), (f, ((i : Int), (s, (g, ())))))), ()))
    (fun x => .inl ((x.1.2.2.2.2.1 || (l.drop x.1.2.2.2.1.toNat).any (nan f), (bif (l.drop x.1.2.2.2.1.toNat).any (snan f) then 1 else x.1.2.2.2.2.2.1), ()), ()))
    ?_ (((l.length : Int), (l.map (fun a : Nat => (a : Int)), (f, ((i : Int), (s, (g, ())))))), ()) ⟨i, s, g, hi, rfl⟩
  · exact key
  intro L x hx hL
  obtain ⟨i, s, g, hi, rfl⟩ := hx
  unfold h56_3
  simp only [nlt, Int.toNat_natCast]
  by_cases hlt : i < l.length
  · have hm : l[i] ∈ l := List.getElem_mem hlt
    have hg : (l.map (fun a : Nat => (a : Int))).getD i 0 = ((l[i] : Nat) : Int) := by
      simp [List.getD_eq_getElem?_getD, hlt]
    have p0 := T109_eq hf (hl _ hm)
    have p1 := T110_eq hf (hl _ hm)
    have e1 : (decide (i < l.length)) = true := by simpa using hlt
    have e2 : (decide ((0 : Int) ≤ (i : Int)) && decide (i < (l.map (fun a : Nat => (a : Int))).length)) = true := by simp; omega
    have e3 : IntKind.wrap .i64 ((i : Int) + 1) = ((i + 1 : Nat) : Int) := by rw [wrapI (by omega)]; omega
    have hd : l.drop i = l[i] :: l.drop (i + 1) := List.drop_eq_getElem_cons hlt
    simp only [e1, e2, e3, hg, pre109 p0, fun109 p0, pre110 p1, fun110 p1, cond_true, Bool.true_or, hd, List.any_cons]
    rw [hL _ ⟨i + 1, _, 1, by omega, rfl⟩ (by simp only [Int.toNat_natCast]; omega), hL _ ⟨i + 1, _, g, by omega, rfl⟩ (by simp only [Int.toNat_natCast]; omega)]
    simp only [Int.toNat_natCast]
    cases snan f l[i]
    · simp only [cond_false, Bool.false_or, Bool.or_assoc]
    · simp only [cond_true, Bool.true_or, Bool.or_assoc]
      cases (l.drop (i + 1)).any (snan f) <;> rfl
  · have e1 : (decide (i < l.length)) = false := by simpa using hlt
    have hd : l.drop i = [] := List.drop_eq_nil_of_le (by omega)
    simp only [e1, cond_false, hd, List.any_nil, Bool.or_false]

theorem T56_eq {f : Int} (hf : Fm f) (l : List Nat) (hl : ∀ a ∈ l, a < 2 ^ 64) (hlen : l.length < 1000000) : T56 (f, l.map (fun a : Nat => (a : Int)), ()) = some (nans f l) := by
  show t56 S109.pre S109.F S110.pre S110.F W56_3 f (l.map (fun a : Nat => (a : Int))) = _
  unfold t56
  have := W56_eq hf l hl hlen 0 false 0 (Nat.zero_le _)
  rw [List.length_map]
  rw [show ((0 : Int)) = ((0 : Nat) : Int) from rfl]
  erw [this]
  rfl

theorem T153_eq {f : Int} {a : Nat} (h : chk f a = 0) : T153 (f, (a : Int), ()) = some ((absF f a : Int), ()) := by
  obtain ⟨hf, h0⟩ := chk_zero h
  show t153 S131.pre S131.F f a = _
  unfold t153
  have h1 := fP_ge hf
  have h2 := fP_lt hf
  have h3 := fW_le hf
  have p2 := T131_ok hf
  have e1 : IntKind.wrap .i64 ((rowOf f).1 - 1) = ((fW f - 1 : Nat) : Int) := wsub (fW f) 1 (by omega) (by omega)
  have e5 : IntKind.wrap .u64 ((fW f - 1 : Nat) : Int) = ((fW f - 1 : Nat) : Int) := wrapU (by omega)
  simp only [pre131 p2, fun131 p2, cond_true, e1, e5]
  rw [shlI_one (by omega), andNotI_bit (by omega) (by rw [Nat.sub_add_cancel (by omega)]; exact h0)]
  rfl

theorem T59_eq {f : Int} (hf : Fm f) {a : Nat} (ha : a < 2 ^ 64) : T59 (f, (a : Int), ()) = some ((sgn f a : Int), ()) := by
  show t59 S113.pre S113.F f a = _
  unfold t59
  have p0 := T113_eq hf ha
  simp only [pre113 p0, fun113 p0, cond_true]

theorem sgn_eq {f : Int} {a : Nat} (h : chk f a = 0) : (sgn f a == 1) = sF f a := by
  obtain ⟨hf, h0⟩ := chk_zero h
  have h2 := fP_lt hf
  unfold sgn sF
  have : a / 2 ^ (fW f - 1) < 2 := by
    rw [Nat.div_lt_iff_lt_mul (Nat.two_pow_pos _)]
    have : 2 ^ fW f = 2 * 2 ^ (fW f - 1) := by rw [← Nat.pow_succ']; congr 1; omega
    omega
  rw [Nat.mod_eq_of_lt this]
  generalize a / 2 ^ (fW f - 1) = q at this ⊢
  match q, this with
  | 0, _ => rfl
  | 1, _ => rfl

theorem T111_eq {f : Int} {a : Nat} (ha : a < 2 ^ 64) (h : chk f a = 0) : T111 (f, (a : Int), ()) = some (place f a, ()) := by
  obtain ⟨hf, h0⟩ := chk_zero h
  show t111 S153.pre S153.F S59.pre S59.F f a = _
  unfold t111
  have hl := abs_lt f hf a
  have p0 := T153_eq h
  have p1 := T59_eq hf ha
  have e : ((sgn f a : Int) == 1) = sF f a := (nbeq (sgn f a) 1).trans (sgn_eq h)
  simp only [pre153 p0, fun153 p0, pre59 p1, fun59 p1, cond_true, e]
  rw [wrapI (n := (absF f a : Int)) (by omega), wrapI (by omega)]
  unfold place
  cases sF f a
  · rfl
  · simp

/-- which is the greater one -/
def ord (x y : Int) : Int := if x < y then -1 else if x > y then 1 else 0

theorem T57_eq {f : Int} {a b : Nat} (ha : a < 2 ^ 64) (hb : b < 2 ^ 64) (h : chk f a = 0) (h' : chk f b = 0) : T57 (f, (a : Int), (b : Int), ()) = some (ord (place f a) (place f b), ()) := by
  show t57 S111.pre S111.F f a b = _
  unfold t57 ord
  have p0 := T111_eq ha h
  have p1 := T111_eq hb h'
  simp only [pre111 p0, fun111 p0, pre111 p1, fun111 p1, cond_true]
  by_cases h1 : place f a < place f b <;> by_cases h2 : place f a > place f b <;> simp [h1, h2]

theorem T15_eq {f : Int} {a b : Nat} (ha : a < 2 ^ 64) (hb : b < 2 ^ 64) (s : Bool) : T15 (f, (a : Int), (b : Int), s, ()) = some (cmpF f a b s) := by
  show t15 S55.pre S55.F S56.pre S56.F S57.pre S57.F f a b s = _
  unfold t15 cmpF
  have p0 := T55_eq f ha hb
  by_cases h : chk2 f a b = 0
  · obtain ⟨h1, h2⟩ := chk2_zero h
    have hf := (chk_zero h1).1
    have p1 : T56 (f, ((a : Int) :: (b : Int) :: []), ()) = some (nans f [a, b]) := T56_eq hf [a, b] (by simp; omega) (by simp)
    have p2 := T57_eq ha hb h1 h2
    simp only [pre55 p0, fun55 p0, pre56 p1, fun56 p1, pre57 p2, fun57 p2, h, cond_true, bne_self_eq_false, cond_false, nans, List.any_cons, List.any_nil, Bool.or_false, ne_eq, not_true_eq_false, if_false]
    cases nan f a || nan f b
    · unfold ord
      by_cases hlt : place f a < place f b <;> by_cases hgt : place f a > place f b <;> simp only [hlt, hgt, if_true, if_false, cond_false] <;> rfl
    · cases s <;> rfl
  · have : (chk2 f a b != 0) = true := by simpa using h
    simp only [pre55 p0, fun55 p0, cond_true, this, if_pos (show chk2 f a b ≠ 0 from h)]

theorem W3_eq {f : Int} {a b : Nat} (ha : a < 2 ^ 64) (hb : b < 2 ^ 64) : W3_2 ((2, ([false, true], (f, ((a : Int), ((b : Int), ((0 : Int), ())))))), ()) = some (.inl ((), ())) := by
  have key := lfix_ind (m3_2 S14.pre S14.F S15.pre S15.F S16.pre S16.F) (fun x => 2 - x.1.2.2.2.2.2.1.toNat)
    (fun x => ∃ i : Nat, i ≤ 2 ∧ x = ((2, ([false, true], (f, ((a : Int), ((b : Int), ((i : Int), ())))))), ()))
    (fun _ => .inl ((), ())) ?_ ((2, ([false, true], (f, ((a : Int), ((b : Int), ((0 : Int), ())))))), ()) ⟨0, by omega, rfl⟩
  · exact key
  intro L x hx hL
  obtain ⟨i, hi, rfl⟩ := hx
  unfold h3_2
  by_cases hlt : i < 2
  · have e1 : (decide ((i : Int) < 2)) = true := by simp; omega
    have e2 : (decide ((0 : Int) ≤ (i : Int)) && decide ((i : Int) < (([false, true] : List Bool).length : Int))) = true := by simp; omega
    have e3 : IntKind.wrap .i64 ((i : Int) + 1) = ((i + 1 : Nat) : Int) := by rw [wrapI (by omega)]; omega
    have p0 := T14_eq (f := f) ha hb (([false, true] : List Bool).getD i false)
    have p1 := T15_eq (f := f) ha hb (([false, true] : List Bool).getD i false)
    simp only [e1, e2, e3, Int.toNat_natCast, pre14 p0, fun14 p0, pre15 p1, fun15 p1, cond_true, bne_self_eq_false, Bool.or_self, cond_false]
    exact hL _ ⟨i + 1, by omega, rfl⟩ (by simp only [Int.toNat_natCast]; omega)
  · have e1 : (decide ((i : Int) < 2)) = false := by simp; omega
    simp only [e1, cond_false]

theorem T3_true (f : Int) {a b : Nat} (ha : a < 2 ^ 64) (hb : b < 2 ^ 64) : T3 (f, (a : Int), (b : Int), ()) = some (true, ()) := by
  show t3 S14.pre S14.F S15.pre S15.F S16.pre S16.F W3_2 f a b = _
  unfold t3
  have := W3_eq (f := f) ha hb
  simp only [List.length_cons, List.length_nil]
  erw [this]
  simp only [pre16 t16_true, fun16 t16_true, cond_true]

end VL
