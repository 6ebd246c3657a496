/- The law OrderChain, in plain Lean. -/
import Derived.Test.YtkkdblemeoehpaaDoorVxL5
namespace VL
open Go Vx

theorem cls_le (f : Int) (a : Nat) : decide (cls f a ≤ 1) = nan f a := by
  rw [← cls_nan, Bool.eq_iff_iff]
  unfold cls
  cases eF f a == fullF f <;> cases eF f a == 0 <;> cases mF f a == 0 <;> cases sF f a <;> cases mF f a / 2 ^ (fP f - 2) != 0 <;> simp

def pickP (f : Int) (a b : Nat) (g : Bool) : Nat :=
  bif nan f a && nan f b then nanF f else bif nan f a then b else bif nan f b then a else pickN f a b g

theorem chk2_ok {f : Int} {a b : Nat} (h1 : chk f a = 0) (h2 : chk f b = 0) : chk2 f a b = 0 := by
  unfold chk2; rw [if_pos h1, h2]

theorem pickF_ok {f : Int} {a b : Nat} (h1 : chk f a = 0) (h2 : chk f b = 0) (g : Bool) : pickF f a b g = ((pickP f a b g : Int), flagF f a b, 0, ()) := by
  unfold pickF pickP
  rw [if_neg (by rw [chk2_ok h1 h2]; simp)]
  cases n1 : nan f a <;> cases n2 : nan f b <;> simp only [Bool.true_and, Bool.false_and, Bool.and_true, Bool.and_false, cond_true, cond_false]
  rw [flag_num n1 n2]

theorem zero_mk (f : Int) (s : Bool) : zeroF f s = mkF f s 0 := by
  unfold zeroF mkF; cases s <;> simp

theorem zero_chk {f : Int} (hf : Fm f) (s : Bool) : chk f (zeroF f s) = 0 := by
  rw [zero_mk]; exact mk_chk hf s (Nat.two_pow_pos _)

theorem pickN_chk {f : Int} {a b : Nat} (h1 : chk f a = 0) (h2 : chk f b = 0) (g : Bool) : chk f (pickN f a b g) = 0 := by
  unfold pickN
  split
  · exact zero_chk (chk_zero h1).1 _
  · split
    · exact h2
    · exact h1

theorem pickP_chk {f : Int} {a b : Nat} (h1 : chk f a = 0) (h2 : chk f b = 0) (g : Bool) : chk f (pickP f a b g) = 0 := by
  unfold pickP
  cases nan f a <;> cases nan f b
  · exact pickN_chk h1 h2 g
  · exact h1
  · exact h2
  · exact (nan_nanF (chk_zero h1).1).2

theorem neg_inj {f : Int} {a b : Nat} (h1 : chk f a = 0) (h2 : chk f b = 0) : negF f a ≠ negF f b ↔ a ≠ b := by
  constructor
  · intro h e; exact h (by rw [e])
  · intro h e
    apply h
    rw [← neg_neg h1, ← neg_neg h2, e]

theorem pickN_neg {f : Int} {a b : Nat} (h1 : chk f a = 0) (h2 : chk f b = 0) : negF f (pickN f a b false) = pickN f (negF f a) (negF f b) true := by
  unfold pickN
  rw [neg_place, neg_place]
  have hi := neg_inj h1 h2
  by_cases h : place f a = place f b ∧ a ≠ b
  · rw [if_pos h, if_pos (show -place f a = -place f b ∧ negF f a ≠ negF f b from ⟨by omega, hi.2 h.2⟩)]
    have e1 : sF f (zeroF f true) = true := by rw [zero_mk]; exact mk_sgn _ (Nat.two_pow_pos _)
    have e2 : absF f (zeroF f true) = 0 := by rw [zero_mk]; exact mk_abs _ (Nat.two_pow_pos _)
    show negF f (zeroF f true) = zeroF f false
    unfold negF
    rw [e1, e2, zero_mk]; rfl
  · rw [if_neg h, if_neg (show ¬ (-place f a = -place f b ∧ negF f a ≠ negF f b) from fun e => h ⟨by omega, hi.1 e.2⟩)]
    by_cases h3 : place f b < place f a
    · rw [if_pos (show (place f b < place f a ∧ false = false) ∨ (place f a < place f b ∧ false = true) from .inl ⟨h3, rfl⟩),
        if_pos (show (-place f b < -place f a ∧ true = false) ∨ (-place f a < -place f b ∧ true = true) from .inr ⟨by omega, rfl⟩)]
    · rw [if_neg (show ¬ ((place f b < place f a ∧ false = false) ∨ (place f a < place f b ∧ false = true)) by simp; omega),
        if_neg (show ¬ ((-place f b < -place f a ∧ true = false) ∨ (-place f a < -place f b ∧ true = true)) by simp; omega)]

theorem nan_neg {f : Int} (hf : Fm f) (a : Nat) : nan f (negF f a) = nan f a := nan_congr hf (neg_abs a)
theorem snan_neg {f : Int} (hf : Fm f) (a : Nat) : snan f (negF f a) = snan f a := snan_congr hf (neg_abs a)

theorem pickP_neg {f : Int} {a b : Nat} (h1 : chk f a = 0) (h2 : chk f b = 0) (hn : nan f (pickP f a b false) = false) : negF f (pickP f a b false) = pickP f (negF f a) (negF f b) true := by
  have hf := (chk_zero h1).1
  unfold pickP at hn ⊢
  rw [nan_neg hf, nan_neg hf]
  cases n1 : nan f a <;> cases n2 : nan f b
  · exact pickN_neg h1 h2
  · rfl
  · rfl
  · rw [n1, n2] at hn
    simp [(nan_nanF hf).1] at hn

theorem cmpF_ok {f : Int} {a b : Nat} (h1 : chk f a = 0) (h2 : chk f b = 0) : cmpF f a b false = (bif nan f a || nan f b then (3, flagF f a b, 0, ()) else if place f a < place f b then (0, 0, 0, ()) else if place f a > place f b then (2, 0, 0, ()) else (1, 0, 0, ())) := by
  unfold cmpF
  rw [if_neg (by rw [chk2_ok h1 h2]; simp)]
  rfl

theorem cmp_neg {f : Int} {a b : Nat} (h1 : chk f a = 0) (h2 : chk f b = 0) : cmpF f (negF f b) (negF f a) false = cmpF f a b false := by
  have hf := (chk_zero h1).1
  rw [cmpF_ok h1 h2, cmpF_ok (neg_chk hf b) (neg_chk hf a), nan_neg hf, nan_neg hf, neg_place, neg_place]
  have e : flagF f (negF f b) (negF f a) = flagF f a b := by
    unfold flagF; rw [snan_neg hf, snan_neg hf, Bool.or_comm]
  rw [e, Bool.or_comm]
  cases nan f a || nan f b
  · simp only [cond_false]
    by_cases g1 : place f a < place f b
    · rw [if_pos g1, if_pos (by omega)]
    · rw [if_neg g1, if_neg (by omega)]
      by_cases g2 : place f a > place f b
      · rw [if_pos g2, if_pos (by omega)]
      · rw [if_neg g2, if_neg (by omega)]
  · rfl

theorem totF_ok {f : Int} {a b : Nat} (h1 : chk f a = 0) (h2 : chk f b = 0) : totF f a b = (ord (rankF f a) (rankF f b), 0, ()) := by
  unfold totF
  rw [if_neg (by rw [chk2_ok h1 h2]; simp)]

theorem ord_neg (x y : Int) : ord (-1 - x) (-1 - y) = -ord x y := by
  unfold ord
  by_cases h1 : x < y
  · rw [if_pos h1, if_neg (by omega), if_pos (by omega)]; rfl
  · rw [if_neg h1]
    by_cases h2 : x > y
    · rw [if_pos h2, if_pos (by omega)]
    · rw [if_neg h2, if_neg (by omega), if_neg (by omega)]; rfl

theorem ord_le (x y : Int) : -1 ≤ ord x y ∧ ord x y ≤ 1 := by
  unfold ord; split <;> first | omega | (split <;> omega)

theorem stepF_ok {f : Int} {a : Nat} (h : chk f a = 0) (w : Int) : stepF f a w = ((stepP f a w : Int), (bif snan f a then 1 else 0), 0, ()) := by
  unfold stepF
  rw [if_neg (by rw [h]; simp)]

theorem T23_true (f : Int) {a b : Nat} (ha : a < 2 ^ 64) (hb : b < 2 ^ 64) : T23 (f, (a : Int), (b : Int), ()) = some (true, ()) := by
  show t23 S17.pre S17.F S14.pre S14.F S19.pre S19.F S21.pre S21.F S42.pre S42.F S41.pre S41.F S65.pre S65.F S64.pre S64.F f a b = _
  unfold t23
  by_cases h1 : chk f a = 0
  · by_cases h2 : chk f b = 0
    · have hf := (chk_zero h1).1
      have n1 := neg_chk hf a
      have n2 := neg_chk hf b
      have p1 := T64_ok h1
      have p2 := T64_ok h2
      have p3 := (T17_eq (f := f) ha hb).trans (congrArg some (totF_ok h1 h2))
      have p4 := (T17_eq (pat_lt n1) (pat_lt n2)).trans (congrArg some ((totF_ok n1 n2).trans (by rw [neg_rank, neg_rank, ord_neg])))
      have p5 := T14_eq (f := f) ha hb false
      have p6 := (T14_eq (f := f) (pat_lt n2) (pat_lt n1) false).trans (congrArg some (cmp_neg h1 h2))
      have p7 := (T19_eq (f := f) ha hb).trans (congrArg some (pickF_ok h1 h2 false))
      have p8 := (T21_eq (f := f) (pat_lt n1) (pat_lt n2)).trans (congrArg some (pickF_ok n1 n2 true))
      have p9 := (T42_eq (f := f) ha).trans (congrArg some (stepF_ok h1 (-1)))
      have p10 := (T41_eq (f := f) (pat_lt n1)).trans (congrArg some (stepF_ok n1 1))
      have c1 := pickP_chk h1 h2 false
      have c2 := step_chk h1 (.inr rfl)
      have p11 := T65_ok (pat_lt c1) c1
      have p12 := T65_ok (pat_lt c2) c2
      have p13 := T64_ok c1
      have p14 := T64_ok c2
      have e1 : IntKind.wrap .i64 (0 - ord (rankF f a) (rankF f b)) = -ord (rankF f a) (rankF f b) := by
        have := ord_le (rankF f a) (rankF f b)
        rw [wrapI (by omega)]; omega
      have e2 : (cmpF f a b false).2.2.1 = 0 := by
        rw [cmpF_ok h1 h2]
        cases nan f a || nan f b
        · simp only [cond_false]
          split
          · rfl
          · split <;> rfl
        · rfl
      have e3 : flagF f (negF f a) (negF f b) = flagF f a b := by unfold flagF; rw [snan_neg hf, snan_neg hf]
      have e4 : (nan f (pickP f a b false) || ((negF f (pickP f a b false) : Int) == (pickP f (negF f a) (negF f b) true : Int))) = true := by
        cases hn : nan f (pickP f a b false)
        · rw [pickP_neg h1 h2 hn]; simp
        · rfl
      have e5 : (nan f (stepP f a (-1)) || ((negF f (stepP f a (-1)) : Int) == (stepP f (negF f a) 1 : Int))) = true := by
        cases hn : nan f (stepP f a (-1))
        · have : nan f a = false := by
            cases hna : nan f a
            · rfl
            · exfalso
              unfold stepP at hn
              rw [hna] at hn
              simp [(nan_nanF hf).1] at hn
          unfold stepP
          rw [nan_neg hf, this]
          simp only [cond_false]
          rw [next_neg h1 this]; simp
        · rfl
      simp only [pre64 p1, fun64 p1, pre64 p2, fun64 p2, pre17 p3, fun17 p3, pre17 p4, fun17 p4, pre14 p5, fun14 p5, pre14 p6, fun14 p6, pre19 p7, fun19 p7, pre21 p8, fun21 p8, pre42 p9, fun42 p9, pre41 p10, fun41 p10, pre65 p11, fun65 p11, pre65 p12, fun65 p12, pre64 p13, fun64 p13, pre64 p14, fun64 p14,
        cond_true, cond_false, bne_self_eq_false, Bool.or_self, e1, e2, e3, cls_le, e4, e5, snan_neg hf, Bool.and_self]
    · have p1 := T64_ok h1
      have p2 := T64_bad hb h2
      have : (chk f b != 0) = true := by simpa using h2
      simp only [pre64 p1, fun64 p1, pre64 p2, fun64 p2, cond_true, this, Bool.or_true]
  · have p1 := T64_bad ha h1
    have : (chk f a != 0) = true := by simpa using h1
    by_cases h2 : chk f b = 0
    · have p2 := T64_ok h2
      simp only [pre64 p1, fun64 p1, pre64 p2, fun64 p2, cond_true, this, Bool.true_or]
    · have p2 := T64_bad hb h2
      simp only [pre64 p1, fun64 p1, pre64 p2, fun64 p2, cond_true, this, Bool.true_or]

theorem rank_inj {f : Int} {a b : Nat} (h1 : chk f a = 0) (h2 : chk f b = 0) (h : rankF f a = rankF f b) : a = b := by
  have ea := pat_eq h1
  have eb := pat_eq h2
  unfold rankF at h
  cases hs : sF f a <;> cases hs' : sF f b <;> rw [hs] at ea h <;> rw [hs'] at eb h <;> simp only [cond_true, cond_false] at ea eb h <;> omega

theorem rank_place {f : Int} (a : Nat) : place f a = if rankF f a < 0 then rankF f a + 1 else rankF f a := by
  unfold place rankF
  cases sF f a <;> simp only [cond_true, cond_false]
  · rw [if_neg (by omega)]
  · rw [if_pos (by omega)]; omega

theorem rank_zero {f : Int} {a b : Nat} (h1 : chk f a = 0) (h2 : chk f b = 0) (hp : place f a = place f b) (hr : rankF f a < rankF f b) : a = zeroF f true ∧ b = zeroF f false := by
  have hne : a ≠ b := fun e => by subst e; omega
  obtain ⟨z1, z2, z3⟩ := place_zero h1 h2 hp hne
  have za := zero_pat h1 z1
  have zb := zero_pat h2 z2
  unfold rankF at hr
  rw [z1, z2] at hr
  cases hs : sF f a <;> cases hs' : sF f b <;> rw [hs, hs'] at hr <;> simp at hr
  rw [hs] at za
  rw [hs'] at zb
  exact ⟨za, zb⟩

/-- which of two numbers is picked -/
theorem pick_le {f : Int} {a b : Nat} (h1 : chk f a = 0) (h2 : chk f b = 0) (hr : rankF f a ≤ rankF f b) : pickN f a b false = a ∧ pickN f a b true = b ∧ pickN f b a false = a ∧ pickN f b a true = b := by
  rcases Int.lt_or_eq_of_le hr with hlt | heq
  · have hne : a ≠ b := fun e => by subst e; omega
    have hp : place f a ≤ place f b := by
      rw [rank_place a, rank_place b]
      split <;> split <;> omega
    by_cases e : place f a = place f b
    · obtain ⟨za, zb⟩ := rank_zero h1 h2 e hlt
      unfold pickN
      rw [if_pos ⟨e, hne⟩, if_pos ⟨e, hne⟩, if_pos ⟨e.symm, hne.symm⟩, if_pos ⟨e.symm, hne.symm⟩]
      exact ⟨za.symm, zb.symm, za.symm, zb.symm⟩
    · have hl : place f a < place f b := by omega
      unfold pickN
      have n1 : ¬ (place f a = place f b ∧ a ≠ b) := fun k => e k.1
      have n2 : ¬ (place f b = place f a ∧ b ≠ a) := fun k => e k.1.symm
      rw [if_neg n1, if_neg n1, if_neg n2, if_neg n2]
      refine ⟨if_neg (by simp; omega), if_pos (.inr ⟨hl, rfl⟩), if_pos (.inl ⟨hl, rfl⟩), if_neg (by simp; omega)⟩
  · have := rank_inj h1 h2 heq
    subst this
    unfold pickN
    simp

theorem T5_true (f : Int) {a b c : Nat} (ha : a < 2 ^ 64) (hb : b < 2 ^ 64) (hc : c < 2 ^ 64) : T5 ((f, (a : Int), (b : Int), (c : Int), ()), ()) = some (true, ()) := by
  show t5 S16.pre S16.F S23.pre S23.F S17.pre S17.F S14.pre S14.F S19.pre S19.F S21.pre S21.F (f, (a : Int), (b : Int), (c : Int), ()) = _
  unfold t5
  have q1 := T23_true f ha hb
  have p1 := T17_eq (f := f) ha hb
  have p2 := T17_eq (f := f) hb ha
  have p3 := T17_eq (f := f) hb hc
  have p4 := T17_eq (f := f) ha hc
  simp only [pre16 t16_true, fun16 t16_true, pre23 q1, fun23 q1, pre17 p1, fun17 p1, pre17 p2, fun17 p2, pre17 p3, fun17 p3, pre17 p4, fun17 p4, cond_true, cond_false, Bool.not_true, Bool.true_or, Bool.or_self]
  by_cases g1 : chk2 f a b = 0
  · obtain ⟨h1, h2⟩ := chk2_zero g1
    by_cases g2 : chk2 f b c = 0
    · obtain ⟨_, h3⟩ := chk2_zero g2
      rw [totF_ok h1 h2, totF_ok h2 h1, totF_ok h2 h3, totF_ok h1 h3]
      have q2 := (T14_eq (f := f) ha hb false).trans (congrArg some (cmpF_ok h1 h2))
      have q3 := (T19_eq (f := f) ha hb).trans (congrArg some (pickF_ok h1 h2 false))
      have q4 := (T21_eq (f := f) ha hb).trans (congrArg some (pickF_ok h1 h2 true))
      simp only [bne_self_eq_false, Bool.or_self, cond_false, pre14 q2, fun14 q2, pre19 q3, fun19 q3, pre21 q4, fun21 q4, cond_true, Bool.false_or, nbeq]
      have e1 : IntKind.wrap .i64 (0 - ord (rankF f b) (rankF f a)) = ord (rankF f a) (rankF f b) := by
        have := ord_le (rankF f b) (rankF f a)
        rw [wrapI (by omega)]
        unfold ord
        rcases Int.lt_trichotomy (rankF f a) (rankF f b) with l | l | l
        · rw [if_neg (show ¬ rankF f b < rankF f a by omega), if_pos (show rankF f b > rankF f a by omega), if_pos l]; rfl
        · rw [l]; simp
        · rw [if_pos (show rankF f b < rankF f a by omega), if_neg (show ¬ rankF f a < rankF f b by omega), if_pos l]; rfl
      have e2 : ((ord (rankF f a) (rankF f b) == 0) == (a == b)) = true := by
        rw [beq_iff_eq, Bool.eq_iff_iff]
        simp only [beq_iff_eq]
        constructor
        · intro h
          apply rank_inj h1 h2
          unfold ord at h
          split at h
          · cases h
          · split at h
            · cases h
            · omega
        · intro h; subst h; unfold ord; simp
      have e3 : decide (ord (rankF f a) (rankF f b) < -1) = false := by
        have := ord_le (rankF f a) (rankF f b)
        simp; omega
      have e4 : decide (ord (rankF f a) (rankF f b) > 1) = false := by
        have := ord_le (rankF f a) (rankF f b)
        simp; omega
      have e5 : (decide (ord (rankF f a) (rankF f b) ≤ 0) && decide (ord (rankF f b) (rankF f c) ≤ 0) && decide (ord (rankF f a) (rankF f c) > 0)) = false := by
        rw [Bool.eq_false_iff]
        simp only [ne_eq, Bool.and_eq_true, decide_eq_true_eq, not_and]
        unfold ord
        intro k1
        split at k1 <;> split at k1 <;> first | omega | (split <;> (try split) <;> intro k2 <;> first | omega | (split <;> (try split) <;> omega))
      have e6 : (decide (ord (rankF f a) (rankF f b) ≥ 0) && decide (ord (rankF f b) (rankF f c) ≥ 0) && decide (ord (rankF f a) (rankF f c) < 0)) = false := by
        rw [Bool.eq_false_iff]
        simp only [ne_eq, Bool.and_eq_true, decide_eq_true_eq, not_and]
        unfold ord
        intro k1
        split at k1 <;> (try split at k1) <;> first | omega | (split <;> (try split) <;> intro k2 <;> first | omega | (split <;> (try split) <;> omega))
      rw [e1, e2, e3, e4, e5, e6]
      simp only [bne_self_eq_false, Bool.not_true, Bool.or_self, cond_false]
      cases hn : nan f a || nan f b
      · have hn1 : nan f a = false := by cases h : nan f a <;> simp [h] at hn ⊢
        have hn2 : nan f b = false := by cases h : nan f b <;> simp [h] at hn ⊢
        have ep : ∀ g, pickP f a b g = pickN f a b g := fun g => by unfold pickP; rw [hn1, hn2]; rfl
        simp only [cond_false, ep]
        rcases Int.lt_or_le (rankF f b) (rankF f a) with hr | hr
        · have hle : decide (ord (rankF f a) (rankF f b) ≤ 0) = false := by
            unfold ord
            rw [if_neg (by omega), if_pos (by omega)]; rfl
          obtain ⟨_, _, k1, k2⟩ := pick_le h2 h1 (Int.le_of_lt hr)
          have hp : ¬ place f a < place f b := by
            rw [rank_place a, rank_place b]
            split <;> split <;> omega
          rw [hle, k1, k2, if_neg hp]
          by_cases hg : place f a > place f b
          · rw [if_pos hg]; simp
          · rw [if_neg hg]; simp
        · have hle : decide (ord (rankF f a) (rankF f b) ≤ 0) = true := by
            unfold ord
            rcases Int.lt_or_eq_of_le hr with l | l
            · rw [if_pos l]; rfl
            · rw [if_neg (by omega), if_neg (by omega)]; rfl
          obtain ⟨k1, k2, _, _⟩ := pick_le h1 h2 hr
          have hp : ¬ place f a > place f b := by
            rw [rank_place a, rank_place b]
            split <;> split <;> omega
          rw [hle, k1, k2]
          by_cases hg : place f a < place f b
          · rw [if_pos hg]; simp
          · rw [if_neg hg, if_neg hp]; simp
      · simp
    · have e1 : (totF f b c) = (0, chk2 f b c, ()) := by unfold totF; rw [if_pos g2]
      rw [totF_ok h1 h2, e1]
      have : (chk2 f b c != 0) = true := by simpa using g2
      simp only [this, Bool.or_true, cond_true, beq_self_eq_true, Bool.true_or, Bool.and_self]
  · have e1 : (totF f a b) = (0, chk2 f a b, ()) := by unfold totF; rw [if_pos g1]
    have g1' : chk2 f b a ≠ 0 := fun h => g1 (by
      obtain ⟨k1, k2⟩ := chk2_zero h
      exact chk2_ok k2 k1)
    have e2 : (totF f b a) = (0, chk2 f b a, ()) := by unfold totF; rw [if_pos g1']
    have : (chk2 f a b != 0) = true := by simpa using g1
    rw [e1, e2]
    by_cases g2 : chk2 f b c = 0
    · obtain ⟨h2, h3⟩ := chk2_zero g2
      rw [totF_ok h2 h3]
      simp only [this, Bool.true_or, cond_true, beq_self_eq_true, Bool.or_true, Bool.and_self]
    · have e3 : (totF f b c) = (0, chk2 f b c, ()) := by unfold totF; rw [if_pos g2]
      rw [e3]
      simp only [this, Bool.true_or, cond_true, beq_self_eq_true, Bool.or_true, Bool.and_self]

end VL
