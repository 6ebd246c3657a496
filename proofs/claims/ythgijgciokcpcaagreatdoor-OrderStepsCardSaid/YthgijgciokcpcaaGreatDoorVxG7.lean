/- Part 7 of the proof. What is proved: symbolic execution of the functions, proved sound; what each function of the program computes, and that every run ends with it; what these functions compute, in plain numbers. Conditions: each theorem bears its own. -/
import Derived.Test.YthgijgciokcpcaaGreatDoorVxG6
import Derived.ProofKit
import Derived.LaidMore
import Derived.OpenShut
import Derived.Stop.Joined
import GoSem.ClaimJoined
set_option linter.all false
set_option exponentiation.threshold 1000000
namespace VL
open Go Vx
theorem W163_eq (l : List Nat) (hl : l.length ≤ 1000000) (n : Nat) (hn : n ≤ l.length) (ht : (trimL l).length ≤ n) :
    W163_2 ((Wd l, ((n : Int), ())), ()) = some (.inl ((((trimL l).length : Int), ()), ())) := by
  have key := lfix_ind m163_2 (fun x => x.1.2.1.toNat)
    (fun x => ∃ n : Nat, n ≤ l.length ∧ (trimL l).length ≤ n ∧ x = ((Wd l, ((n : Int), ())), ()))
    (fun _ => .inl ((((trimL l).length : Int), ()), ())) ?_ ((Wd l, ((n : Int), ())), ()) ⟨n, hn, ht, rfl⟩
  · exact key
  intro L x hx hL
  obtain ⟨n, hn, ht, rfl⟩ := hx
  unfold h163_2
  rcases Nat.eq_zero_or_pos n with rfl | hpos
  · have e1 : decide (((0 : Nat) : Int) > 0) = false := rfl
    simp only [e1, Bool.not_false, Bool.or_true, cond_true, Bool.false_and, cond_false]
    have : (trimL l).length = 0 := by omega
    rw [this]
  · simp (disch := omega) only [wadd, wadd1, wadd64, wsubn, wsub1, wmul64, ilt_t, ilt_f, ile_t, ile_f, igt_t, igt_f, ige_t, ige_f, ipos_t, ipos_f, igt0_t, igt0_f, nnn, beq0_t, beq0_f, bne0_t, bne0_f, Int.toNat_natCast, Int.toNat_zero, cond_true, cond_false, Bool.and_self, Bool.true_and, Bool.and_true, Bool.false_and, Bool.and_false, Bool.not_true, Bool.not_false, Bool.or_self, Bool.true_or, Bool.or_true, Bool.false_or, Bool.or_false, Wd_len, Wd_getD, nbeq0]
    cases hz : (l.getD (n - 1) 0 == 0) with
    | true =>
      simp only [cond_true]
      refine hL _ ⟨n - 1, by omega, ?_, rfl⟩ (by simp only [Int.toNat_natCast]; omega)
      rcases Nat.lt_or_ge (n - 1) (trimL l).length with h | h
      · exfalso
        have e : n = (trimL l).length := by omega
        have := trim_last l (by omega)
        rw [← e] at this
        exact this (by simpa using hz)
      · exact h
    | false =>
      simp only [cond_false]
      have : (trimL l).length = n := by
        rcases Nat.lt_or_ge (n - 1) (trimL l).length with h | h
        · omega
        · exfalso
          have := trim_out l (n - 1) h
          rw [this] at hz
          simp at hz
      rw [this]
theorem T163_eq (l : List Nat) (hl : l.length ≤ 1000000) : T163 (Wd l, ()) = some (((trimL l).length : Int), ()) := by
  show t163 W163_2 (Wd l) = _
  unfold t163
  have h := W163_eq l hl l.length (Nat.le_refl _) (trim_len l).1
  rw [Wd_len, h]
theorem T163_dw {x : Nat} (hx : x < (2 ^ 64) ^ 5000) : T163 (Dw x, ()) = some (((dg (2 ^ 64) x).length : Int), ()) := by
  have := T163_eq (dg (2 ^ 64) x) (Dw_ws hx).2
  rw [dg_trim (by decide)] at this
  exact this
theorem T133_eq (l : List Nat) (hl : l.length ≤ 1000000) : T133 (Wd l, ()) = some (Wd (trimL l), ()) := by
  show t133 S163.pre S163.F (Wd l) = _
  unfold t133
  have p0 := T163_eq l hl
  have hle := (trim_len l).1
  have e3 : decide ((((trimL l).length : Nat) : Int) * 8 ≤ 140737488355328) = true := decide_eq_true (by omega)
  simp (disch := omega) only [wadd, wadd1, wadd64, wsubn, wsub1, wmul64, ilt_t, ilt_f, ile_t, ile_f, igt_t, igt_f, ige_t, ige_f, ipos_t, ipos_f, igt0_t, igt0_f, nnn, beq0_t, beq0_f, bne0_t, bne0_f, Int.toNat_natCast, Int.toNat_zero, cond_true, cond_false, Bool.and_self, Bool.true_and, Bool.and_true, Bool.false_and, Bool.and_false, Bool.not_true, Bool.not_false, Bool.or_self, Bool.true_or, Bool.or_true, Bool.false_or, Bool.or_false, pre163 p0, fun163 p0, Wd_len, e3, List.length_replicate, List.drop_replicate, Wd_take]
  rw [show (trimL l).length - l.length = 0 by omega, List.replicate_zero, List.append_nil, ← (trim_len l).2]
theorem T133_h {l : List Nat} (hl : Ws l) {v : Nat} (hv : nv (2 ^ 64) l = v) : T133 (Wd l, ()) = some (Dw v, ()) := by
  rw [T133_eq l hl.2, trim_dg (by decide) _ hl.1, hv]; rfl
theorem T133_dw {x : Nat} (hx : x < (2 ^ 64) ^ 5000) : T133 (Dw x, ()) = some (Dw x, ()) := T133_h (Dw_ws hx) (nv_Dw x)
theorem W138_eq (w : Nat) (hw : w < 2 ^ 64) (n : Int) :
    W138_6 (((w : Int), (n, ((0 : Int), ()))), ()) = some (.inl ((n, ((blen w : Int), ())), ())) := by
  have hb0 : blen w ≤ 64 := blen_bound hw
  have key := lfix_ind (m138_6 S163.pre S163.F) (fun x => x.1.1.toNat)
    (fun x => ∃ v k : Nat, v < 2 ^ 64 ∧ k + blen v = blen w ∧ x = (((v : Int), (n, ((k : Int), ()))), ()))
    (fun _ => .inl ((n, ((blen w : Int), ())), ())) ?_ (((w : Int), (n, ((0 : Int), ()))), ()) ⟨w, 0, hw, by omega, rfl⟩
  · exact key
  intro L x hx hL
  obtain ⟨v, k, hv, hk, rfl⟩ := hx
  unfold h138_6
  rcases Nat.eq_zero_or_pos v with rfl | hpos
  · have e1 : decide (((0 : Nat) : Int) > 0) = false := rfl
    have e2 : blen 0 = 0 := rfl
    simp only [e1, cond_false]
    rw [show k = blen w by omega]
  · have hb : blen v = 1 + blen (v / 2) := by
      rcases Nat.lt_or_ge v 2 with h | h
      · have : v = 1 := by omega
        subst this; rfl
      · exact blen_shift (k := 1) (by simpa using h)
    have hs : shrI .u64 (v : Int) 1 = ((v / 2 : Nat) : Int) := shrN v 1 (by omega)
    simp (disch := omega) only [wadd, wadd1, wadd64, wsubn, wsub1, wmul64, ilt_t, ilt_f, ile_t, ile_f, igt_t, igt_f, ige_t, ige_f, ipos_t, ipos_f, igt0_t, igt0_f, nnn, beq0_t, beq0_f, bne0_t, bne0_f, Int.toNat_natCast, Int.toNat_zero, cond_true, cond_false, Bool.and_self, Bool.true_and, Bool.and_true, Bool.false_and, Bool.and_false, Bool.not_true, Bool.not_false, Bool.or_self, Bool.true_or, Bool.or_true, Bool.false_or, Bool.or_false, hs]
    refine hL _ ⟨v / 2, k + 1, by omega, by omega, rfl⟩ (by simp only [Int.toNat_natCast]; omega)
/-- Len -/
theorem T138_eq (l : List Nat) (hl : Ws l) : T138 (Wd l, ()) = some ((blen (nv (2 ^ 64) l) : Int), ()) := by
  obtain ⟨h, hlen⟩ := hl
  show t138 S163.pre S163.F W138_6 (Wd l) = _
  unfold t138
  have p0 := T163_eq l hlen
  have hle := (trim_len l).1
  simp only [pre163 p0, fun163 p0, cond_true, Wd_len]
  rcases Nat.eq_zero_or_pos (trimL l).length with h0 | h0
  · rw [h0, trim_nil h h0]; rfl
  · have hd := getD_lt (by decide) h ((trimL l).length - 1)
    have hb := blen_bound hd
    have hw := W138_eq _ hd ((trimL l).length : Int)
    have hr := blen_row h h0
    simp (disch := omega) only [wadd, wadd1, wadd64, wsubn, wsub1, wmul64, ilt_t, ilt_f, ile_t, ile_f, igt_t, igt_f, ige_t, ige_f, ipos_t, ipos_f, igt0_t, igt0_f, nnn, beq0_t, beq0_f, bne0_t, bne0_f, Int.toNat_natCast, Int.toNat_zero, cond_true, cond_false, Bool.and_self, Bool.true_and, Bool.and_true, Bool.false_and, Bool.and_false, Bool.not_true, Bool.not_false, Bool.or_self, Bool.true_or, Bool.or_true, Bool.false_or, Bool.or_false, Wd_getD, hw]
    show some (IntKind.wrap .i64 (IntKind.wrap .i64 (64 * IntKind.wrap .i64 (((trimL l).length : Int) - 1)) + (blen (l.getD ((trimL l).length - 1) 0) : Int)), ()) = _
    simp (disch := omega) only [wadd, wadd1, wadd64, wsubn, wsub1, wmul64, ilt_t, ilt_f, ile_t, ile_f, igt_t, igt_f, ige_t, ige_f, ipos_t, ipos_f, igt0_t, igt0_f, nnn, beq0_t, beq0_f, bne0_t, bne0_f, Int.toNat_natCast, Int.toNat_zero, cond_true, cond_false, Bool.and_self, Bool.true_and, Bool.and_true, Bool.false_and, Bool.and_false, Bool.not_true, Bool.not_false, Bool.or_self, Bool.true_or, Bool.or_true, Bool.false_or, Bool.or_false]
    rw [hr]
theorem T138_dw {x : Nat} (hx : x < (2 ^ 64) ^ 5000) : T138 (Dw x, ()) = some ((blen x : Int), ()) := by
  have := T138_eq (dg (2 ^ 64) x) (Dw_ws hx)
  rw [nv_Dw] at this
  exact this
theorem T183_eq (l : List Nat) (i : Nat) : T183 (Wd l, (i : Int), ()) = some (((l.getD i 0 : Nat) : Int), ()) := by
  show t183 (Wd l) i = _
  unfold t183
  rcases Nat.lt_or_ge i l.length with h | h
  · simp (disch := omega) only [wadd, wadd1, wadd64, wsubn, wsub1, wmul64, ilt_t, ilt_f, ile_t, ile_f, igt_t, igt_f, ige_t, ige_f, ipos_t, ipos_f, igt0_t, igt0_f, nnn, beq0_t, beq0_f, bne0_t, bne0_f, Int.toNat_natCast, Int.toNat_zero, cond_true, cond_false, Bool.and_self, Bool.true_and, Bool.and_true, Bool.false_and, Bool.and_false, Bool.not_true, Bool.not_false, Bool.or_self, Bool.true_or, Bool.or_true, Bool.false_or, Bool.or_false, Wd_len, Wd_getD]
  · have : l.getD i 0 = 0 := by rw [List.getD_eq_getElem?_getD, List.getElem?_eq_none h]; rfl
    simp (disch := omega) only [wadd, wadd1, wadd64, wsubn, wsub1, wmul64, ilt_t, ilt_f, ile_t, ile_f, igt_t, igt_f, ige_t, ige_f, ipos_t, ipos_f, igt0_t, igt0_f, nnn, beq0_t, beq0_f, bne0_t, bne0_f, Int.toNat_natCast, Int.toNat_zero, cond_true, cond_false, Bool.and_self, Bool.true_and, Bool.and_true, Bool.false_and, Bool.and_false, Bool.not_true, Bool.not_false, Bool.or_self, Bool.true_or, Bool.or_true, Bool.false_or, Bool.or_false, Wd_len, this]
    rfl
theorem nv_digit {B : Nat} (hB : 2 ≤ B) {l : List Nat} (h : ∀ x ∈ l, x < B) (k : Nat) : nv B l / B ^ k % B = l.getD k 0 := by
  rcases Nat.lt_or_ge k l.length with hk | hk
  · have e := pd_of (by omega) l h
    have := pd_get B l.length (nv B l) k hk
    rw [← e] at this
    exact this.symm
  · rw [List.getD_eq_getElem?_getD, List.getElem?_eq_none hk, Nat.div_eq_of_lt]
    · exact Nat.zero_mod _
    · exact Nat.lt_of_lt_of_le (nv_lt hB l h) (Nat.pow_le_pow_right (by omega) hk)
theorem bit_digit {v k s : Nat} (hs : s < 64) : v / (2 ^ 64) ^ k % 2 ^ 64 / 2 ^ s % 2 = v / 2 ^ (64 * k + s) % 2 := by
  rw [Nat.pow_add, Nat.pow_mul, ← Nat.div_div_eq_div_mul]
  generalize v / (2 ^ 64) ^ k = w
  have e : 2 ^ 64 = 2 ^ s * 2 ^ (64 - s) := by rw [← Nat.pow_add]; congr 1; omega
  rw [e, Nat.mod_mul_right_div_self]
  rw [show 64 - s = (63 - s) + 1 by omega, Nat.pow_succ, Nat.mul_comm (2 ^ (63 - s)) 2]
  exact Nat.mod_mul_right_mod _ _ _
theorem quo64 (n : Nat) (hn : n ≤ 1000000000) : quoI .i64 (n : Int) 64 = ((n / 64 : Nat) : Int) := by
  unfold quoI
  rw [show Int.tdiv (n : Int) 64 = ((n / 64 : Nat) : Int) from rfl, wrapI (by omega)]
theorem tmod64 (n : Nat) : Int.tmod (n : Int) 64 = ((n % 64 : Nat) : Int) := rfl
theorem and1N (n : Nat) (h : n < 2 ^ 64) : andI .u64 (n : Int) 1 = ((n % 2 : Nat) : Int) := by
  have := and1 n
  rw [Nat.mod_eq_of_lt h] at this
  exact this
theorem T167_eq (l : List Nat) (hl : Ws l) (i : Nat) (hi : i ≤ 1000000000) : T167 (Wd l, (i : Int), ()) = some (((nv (2 ^ 64) l / 2 ^ i % 2 : Nat) : Int), ()) := by
  show t167 (Wd l) i = _
  unfold t167
  have hd := nv_digit (B := 2 ^ 64) (by decide) hl.1 (i / 64)
  have hb := bit_digit (v := nv (2 ^ 64) l) (k := i / 64) (s := i % 64) (Nat.mod_lt _ (by decide))
  rw [hd, Nat.div_add_mod] at hb
  have hlt := getD_lt (by decide) hl.1 (i / 64)
  rw [← hb]
  rcases Nat.lt_or_ge (i / 64) l.length with h | h
  · have hq : l.getD (i / 64) 0 / 2 ^ (i % 64) < 2 ^ 64 := Nat.lt_of_le_of_lt (Nat.div_le_self _ _) hlt
    simp (disch := omega) only [wadd, wadd1, wadd64, wsubn, wsub1, wmul64, ilt_t, ilt_f, ile_t, ile_f, igt_t, igt_f, ige_t, ige_f, ipos_t, ipos_f, igt0_t, igt0_f, nnn, beq0_t, beq0_f, bne0_t, bne0_f, Int.toNat_natCast, Int.toNat_zero, cond_true, cond_false, Bool.and_self, Bool.true_and, Bool.and_true, Bool.false_and, Bool.and_false, Bool.not_true, Bool.not_false, Bool.or_self, Bool.true_or, Bool.or_true, Bool.false_or, Bool.or_false, ineg_f, quo64, tmod64, wu_id, Wd_len, Wd_getD, shrN, and1N _ hq]
  · have : l.getD (i / 64) 0 = 0 := by rw [List.getD_eq_getElem?_getD, List.getElem?_eq_none h]; rfl
    simp (disch := omega) only [wadd, wadd1, wadd64, wsubn, wsub1, wmul64, ilt_t, ilt_f, ile_t, ile_f, igt_t, igt_f, ige_t, ige_f, ipos_t, ipos_f, igt0_t, igt0_f, nnn, beq0_t, beq0_f, bne0_t, bne0_f, Int.toNat_natCast, Int.toNat_zero, cond_true, cond_false, Bool.and_self, Bool.true_and, Bool.and_true, Bool.false_and, Bool.and_false, Bool.not_true, Bool.not_false, Bool.or_self, Bool.true_or, Bool.or_true, Bool.false_or, Bool.or_false, ineg_f, quo64, Wd_len, this, Nat.zero_div]
    rfl
theorem T167_dw {x : Nat} (hx : x < (2 ^ 64) ^ 5000) (i : Nat) (hi : i ≤ 1000000000) : T167 (Dw x, (i : Int), ()) = some (((x / 2 ^ i % 2 : Nat) : Int), ()) := by
  have := T167_eq (dg (2 ^ 64) x) (Dw_ws hx) i hi
  rw [nv_Dw] at this
  exact this
/-- Add -/
theorem W168_eq (a b : List Nat) (ha : Ws a) (hb : Ws b) (K : Nat) (hK : K ≤ 900000) (haK : a.length ≤ K) (hbK : b.length ≤ K) :
    W168_7 ((Wd a, (Wd b, ((0 : Int), ((K : Int), ((0 : Int), ((), ())))))), (Wd (List.replicate (K + 1) 0), ())) =
      some (.inl (((K : Int), ((((nv (2 ^ 64) a + nv (2 ^ 64) b) / (2 ^ 64) ^ K : Nat) : Int), ((), ()))), (Wd (pd (2 ^ 64) K ((nv (2 ^ 64) a + nv (2 ^ 64) b) % (2 ^ 64) ^ K) ++ [0]), ()))) := by
  have key := lfix_ind (m168_7 S163.pre S163.F S183.pre S183.F S133.pre S133.F) (fun x => K - x.1.2.2.1.toNat)
    (fun x => ∃ (i : Nat) (out : List Nat) (c : Nat), i ≤ K ∧ out.length = i ∧ (∀ x ∈ out, x < 2 ^ 64) ∧ c ≤ 1 ∧ nv (2 ^ 64) out + (2 ^ 64) ^ i * c = nv (2 ^ 64) (a.take i) + nv (2 ^ 64) (b.take i) ∧ x = ((Wd a, (Wd b, ((i : Int), ((K : Int), ((c : Int), ((), ())))))), (Wd (out ++ (List.replicate (K + 1) 0).drop i), ())))
    (fun _ => .inl (((K : Int), ((((nv (2 ^ 64) a + nv (2 ^ 64) b) / (2 ^ 64) ^ K : Nat) : Int), ((), ()))), (Wd (pd (2 ^ 64) K ((nv (2 ^ 64) a + nv (2 ^ 64) b) % (2 ^ 64) ^ K) ++ [0]), ()))) ?_ _
    ⟨0, [], 0, Nat.zero_le _, rfl, (fun x hx => by simp at hx), by decide, by simp [nv], rfl⟩
  · exact key
  intro L x hx hL
  obtain ⟨i, out, c, hi, hol, hod, hc, hov, rfl⟩ := hx
  unfold h168_7
  rcases Nat.lt_or_ge i K with hlt | hge
  · have hxa := getD_lt (by decide) ha.1 i
    have hxb := getD_lt (by decide) hb.1 i
    have hna := nv_take_next (2 ^ 64) a i
    have hnb := nv_take_next (2 ^ 64) b i
    have p1 := T183_eq a i
    have p2 := T183_eq b i
    have hset := fun v => set_drop (a := List.replicate (K + 1) 0) (v := v) hol (by simp; omega)
    have hlen : (out ++ (List.replicate (K + 1) 0).drop i).length = K + 1 := by simp; omega
    have hstep := carry_step (B := 2 ^ 64) (V' := nv (2 ^ 64) (a.take (i + 1)) + nv (2 ^ 64) (b.take (i + 1))) (d := a.getD i 0 + b.getD i 0) hol hov (by
      rw [hna, hnb, Nat.mul_add]; omega)
    generalize a.getD i 0 = da at *
    generalize b.getD i 0 = db at *
    have e1 : IntKind.wrap .u64 ((da : Int) + (db : Int)) = (((da + db) % 2 ^ 64 : Nat) : Int) := by rw [← Int.natCast_add]; exact wrapN _
    have e2 : IntKind.wrap .u64 ((((da + db) % 2 ^ 64 : Nat) : Int) + (c : Int)) = (((da + db + c) % 2 ^ 64 : Nat) : Int) := by
      rw [← Int.natCast_add, wrapN]; congr 1; omega
    have hgo : ∀ c' : Nat, c' = (da + db + c) / 2 ^ 64 → L ((Wd a, (Wd b, (((i + 1 : Nat) : Int), ((K : Int), ((c' : Int), ((), ())))))), (Wd (out ++ [(da + db + c) % 2 ^ 64] ++ (List.replicate (K + 1) 0).drop (i + 1)), ())) = _ := fun c' h =>
      hL _ ⟨i + 1, out ++ [(da + db + c) % 2 ^ 64], c', by omega, by simp; omega, app_lt hod (Nat.mod_lt _ (by decide)), by omega, by rw [h]; exact hstep, rfl⟩ (by simp only [Int.toNat_natCast]; omega)
    simp (disch := omega) only [wadd, wadd1, wadd64, wsubn, wsub1, wmul64, ilt_t, ilt_f, ile_t, ile_f, igt_t, igt_f, ige_t, ige_f, ipos_t, ipos_f, igt0_t, igt0_f, nnn, beq0_t, beq0_f, bne0_t, bne0_f, Int.toNat_natCast, Int.toNat_zero, cond_true, cond_false, Bool.and_self, Bool.true_and, Bool.and_true, Bool.false_and, Bool.and_false, Bool.not_true, Bool.not_false, Bool.or_self, Bool.true_or, Bool.or_true, Bool.false_or, Bool.or_false, pre183 p1, fun183 p1, pre183 p2, fun183 p2, e1, e2, Wd_len, hlen]
    by_cases hcar : 2 ^ 64 ≤ da + db + c
    · have hor : (decide ((((da + db) % 2 ^ 64 : Nat) : Int) < (da : Int)) || decide ((((da + db + c) % 2 ^ 64 : Nat) : Int) < (((da + db) % 2 ^ 64 : Nat) : Int))) = true := by
        simp only [Bool.or_eq_true, decide_eq_true_eq]; omega
      rw [hor, cond_true, Wd_set, hset]
      exact hgo 1 (by omega)
    · have hor : (decide ((((da + db) % 2 ^ 64 : Nat) : Int) < (da : Int)) || decide ((((da + db + c) % 2 ^ 64 : Nat) : Int) < (((da + db) % 2 ^ 64 : Nat) : Int))) = false := by
        simp only [Bool.or_eq_false_iff, decide_eq_false_iff_not]; omega
      rw [hor, cond_false, Wd_set, hset]
      exact hgo 0 (by omega)
  · have e : i = K := by omega
    subst e
    rw [List.take_of_length_le haK, List.take_of_length_le hbK] at hov
    obtain ⟨h1, h2⟩ := carry_end (by decide) hol hod hov
    simp (disch := omega) only [wadd, wadd1, wadd64, wsubn, wsub1, wmul64, ilt_t, ilt_f, ile_t, ile_f, igt_t, igt_f, ige_t, ige_f, ipos_t, ipos_f, igt0_t, igt0_f, nnn, beq0_t, beq0_f, bne0_t, bne0_f, Int.toNat_natCast, Int.toNat_zero, cond_true, cond_false, Bool.and_self, Bool.true_and, Bool.and_true, Bool.false_and, Bool.and_false, Bool.not_true, Bool.not_false, Bool.or_self, Bool.true_or, Bool.or_true, Bool.false_or, Bool.or_false]
    rw [h1, h2, List.drop_replicate, Nat.add_sub_cancel_left]
    rfl
theorem add_set {K V c : Nat} (hV : V < (2 ^ 64) ^ K) : (pd (2 ^ 64) K V ++ [0]).set K c = pd (2 ^ 64) K V ++ [c] := by
  rw [List.set_append_right _ _ (by rw [pd_len]; exact Nat.le_refl _), pd_len, Nat.sub_self]; rfl
theorem T168_eq (a b : List Nat) (ha : Ws a) (hb : Ws b) (ha2 : a.length ≤ 800000) (hb2 : b.length ≤ 800000) (hta : trimL a = a) (htb : trimL b = b) : T168 (Wd a, Wd b, ()) = some (Dw (nv (2 ^ 64) a + nv (2 ^ 64) b), ()) := by
  show t168 S163.pre S163.F S183.pre S183.F S133.pre S133.F W168_7 (Wd a) (Wd b) = _
  unfold t168
  have p1 := T163_eq a ha.2
  have p2 := T163_eq b hb.2
  rw [hta] at p1
  rw [htb] at p2
  have fin : ∀ K : Nat, a.length ≤ K → b.length ≤ K → K ≤ 800000 →
      (bif decide ((0 : Int) ≤ IntKind.wrap .i64 ((K : Int) + 1)) && decide (IntKind.wrap .i64 ((K : Int) + 1) * 8 ≤ 140737488355328) then
        Vx.obind (W168_7 ((Wd a, (Wd b, ((0 : Int), ((K : Int), ((0 : Int), ((), ())))))), ((List.replicate (Int.toNat (IntKind.wrap .i64 ((K : Int) + 1))) (0 : Int)), ()))) fun y5 =>
            Vx.obind2 y5 (fun y6 =>
            bif ((decide ((0 : Int) ≤ y6.1.1)) && (decide (y6.1.1 < (y6.2.1.length : Int)))) then
              (bif (S133.pre ((y6.2.1.set (Int.toNat y6.1.1) y6.1.2.1), ())) then
                (some (S133.F ((y6.2.1.set (Int.toNat y6.1.1) y6.1.2.1), ())))
              else none)
            else none) (fun z6 =>
            none)
        else none) = some (Dw (nv (2 ^ 64) a + nv (2 ^ 64) b), ()) := by
    intro K haK hbK hK
    have hw := W168_eq a b ha hb K (by omega) haK hbK
    have hB : 0 < (2 ^ 64) ^ K := Nat.pow_pos (by decide)
    have hla := Nat.lt_of_lt_of_le (nv_lt (B := 2 ^ 64) (by decide) a ha.1) (Nat.pow_le_pow_right (by decide) haK)
    have hlb := Nat.lt_of_lt_of_le (nv_lt (B := 2 ^ 64) (by decide) b hb.1) (Nat.pow_le_pow_right (by decide) hbK)
    have hq : (nv (2 ^ 64) a + nv (2 ^ 64) b) / (2 ^ 64) ^ K < 2 ^ 64 := by
      rw [Nat.div_lt_iff_lt_mul hB]
      have : 2 * (2 ^ 64) ^ K ≤ 2 ^ 64 * (2 ^ 64) ^ K := Nat.mul_le_mul_right _ (by decide)
      omega
    have hlast : nv (2 ^ 64) (pd (2 ^ 64) K ((nv (2 ^ 64) a + nv (2 ^ 64) b) % (2 ^ 64) ^ K) ++ [(nv (2 ^ 64) a + nv (2 ^ 64) b) / (2 ^ 64) ^ K]) = nv (2 ^ 64) a + nv (2 ^ 64) b := by
      rw [nv_snoc, pd_len, pd_nv (by decide) _ _ (Nat.mod_lt _ hB)]
      exact Nat.mod_add_div _ _
    have p0 := T133_h ⟨app_lt (pd_lt (by decide) K ((nv (2 ^ 64) a + nv (2 ^ 64) b) % (2 ^ 64) ^ K)) hq, by simp [pd_len]; omega⟩ hlast
    have hs := fun c => add_set (c := c) (Nat.mod_lt (nv (2 ^ 64) a + nv (2 ^ 64) b) hB)
    have hpl := pd_len (2 ^ 64) K ((nv (2 ^ 64) a + nv (2 ^ 64) b) % (2 ^ 64) ^ K)
    generalize (nv (2 ^ 64) a + nv (2 ^ 64) b) / (2 ^ 64) ^ K = C at *
    generalize pd (2 ^ 64) K ((nv (2 ^ 64) a + nv (2 ^ 64) b) % (2 ^ 64) ^ K) = O at *
    have e0 : decide (((K + 1 : Nat) : Int) * 8 ≤ 140737488355328) = true := decide_eq_true (by omega)
    simp (disch := omega) only [wadd, wadd1, wadd64, wsubn, wsub1, wmul64, ilt_t, ilt_f, ile_t, ile_f, igt_t, igt_f, ige_t, ige_f, ipos_t, ipos_f, igt0_t, igt0_f, nnn, beq0_t, beq0_f, bne0_t, bne0_f, Int.toNat_natCast, Int.toNat_zero, cond_true, cond_false, Bool.and_self, Bool.true_and, Bool.and_true, Bool.false_and, Bool.and_false, Bool.not_true, Bool.not_false, Bool.or_self, Bool.true_or, Bool.or_true, Bool.false_or, Bool.or_false, e0, Wd_rep, hw]
    show (bif decide ((0 : Int) ≤ (K : Int)) && decide ((K : Int) < ((Wd (O ++ [0])).length : Int)) then (bif S133.pre ((Wd (O ++ [0])).set (Int.toNat (K : Int)) (C : Int), ()) then some (S133.F ((Wd (O ++ [0])).set (Int.toNat (K : Int)) (C : Int), ())) else none) else none) = _
    have hl1 : (O ++ [0]).length = K + 1 := by simp [hpl]
    simp (disch := omega) only [wadd, wadd1, wadd64, wsubn, wsub1, wmul64, ilt_t, ilt_f, ile_t, ile_f, igt_t, igt_f, ige_t, ige_f, ipos_t, ipos_f, igt0_t, igt0_f, nnn, beq0_t, beq0_f, bne0_t, bne0_f, Int.toNat_natCast, Int.toNat_zero, cond_true, cond_false, Bool.and_self, Bool.true_and, Bool.and_true, Bool.false_and, Bool.and_false, Bool.not_true, Bool.not_false, Bool.or_self, Bool.true_or, Bool.or_true, Bool.false_or, Bool.or_false, Wd_len, hl1, Wd_set, hs, pre133 p0, fun133 p0]
    rfl
  simp only [pre163 p1, fun163 p1, pre163 p2, fun163 p2, cond_true]
  by_cases h : a.length < b.length
  · rw [igt_t _ _ h, cond_true]
    exact fin b.length (by omega) (Nat.le_refl _) hb2
  · rw [igt_f _ _ (by omega), cond_false]
    exact fin a.length (Nat.le_refl _) (by omega) ha2
theorem T168_dw {x y : Nat} (hx : x < (2 ^ 64) ^ 5000) (hy : y < (2 ^ 64) ^ 5000) : T168 (Dw x, Dw y, ()) = some (Dw (x + y), ()) := by
  have h1 : (dg (2 ^ 64) x).length ≤ 5000 := dg_len_le (by decide) _ _ hx
  have h2 : (dg (2 ^ 64) y).length ≤ 5000 := dg_len_le (by decide) _ _ hy
  have := T168_eq (dg (2 ^ 64) x) (dg (2 ^ 64) y) (Dw_ws hx) (Dw_ws hy) (by omega) (by omega) (dg_trim (by decide) _) (dg_trim (by decide) _)
  rw [nv_Dw, nv_Dw] at this
  exact this
theorem W166_eq (a b : List Nat) (ha : ∀ x ∈ a, x < 2 ^ 64) (hb : ∀ x ∈ b, x < 2 ^ 64) (hla : a.length ≤ 1000000) (hab : a.length = b.length) :
    W166_8 ((Wd a, (Wd b, ((a.length : Int) - 1, ()))), ()) = some (if nv (2 ^ 64) a = nv (2 ^ 64) b then .inl ((), ()) else .inr (((if nv (2 ^ 64) a < nv (2 ^ 64) b then (-1 : Int) else 1), ()), ())) := by
  have key := lfix_ind (m166_8 S163.pre S163.F) (fun x => (x.1.2.2.1 + 1).toNat)
    (fun x => ∃ j : Nat, j ≤ a.length ∧ nv (2 ^ 64) (a.drop j) = nv (2 ^ 64) (b.drop j) ∧ x = ((Wd a, (Wd b, ((j : Int) - 1, ()))), ()))
    (fun _ => if nv (2 ^ 64) a = nv (2 ^ 64) b then .inl ((), ()) else .inr (((if nv (2 ^ 64) a < nv (2 ^ 64) b then (-1 : Int) else 1), ()), ())) ?_ ((Wd a, (Wd b, ((a.length : Int) - 1, ()))), ())
    ⟨a.length, Nat.le_refl _, by rw [List.drop_length, hab, List.drop_length], rfl⟩
  · exact key
  intro L x hx hL
  obtain ⟨j, hj, hd, rfl⟩ := hx
  unfold h166_8
  rcases j with _ | i
  · have e1 : decide ((((0 : Nat) : Int) - 1) ≥ 0) = false := rfl
    rw [List.drop_zero, List.drop_zero] at hd
    simp only [e1, cond_false, if_pos hd]
  · have e0 : (((i + 1 : Nat) : Int) - 1) = (i : Int) := by omega
    have e2 : IntKind.wrap .i64 ((i : Int) - 1) = (i : Int) - 1 := wrapI (by omega)
    have e3 : decide ((i : Int) ≥ 0) = true := decide_eq_true (by omega)
    simp (disch := omega) only [e0, e2, e3, wadd, wadd1, wadd64, wsubn, wsub1, wmul64, ilt_t, ilt_f, ile_t, ile_f, igt_t, igt_f, ige_t, ige_f, ipos_t, ipos_f, igt0_t, igt0_f, nnn, beq0_t, beq0_f, bne0_t, bne0_f, Int.toNat_natCast, Int.toNat_zero, cond_true, cond_false, Bool.and_self, Bool.true_and, Bool.and_true, Bool.false_and, Bool.and_false, Bool.not_true, Bool.not_false, Bool.or_self, Bool.true_or, Bool.or_true, Bool.false_or, Bool.or_false, Wd_len, Wd_getD]
    rcases Nat.lt_trichotomy (a.getD i 0) (b.getD i 0) with h | h | h
    · have hr := row_lt (by decide) ha (by omega) (by omega) hd h
      simp (disch := omega) only [wadd, wadd1, wadd64, wsubn, wsub1, wmul64, ilt_t, ilt_f, ile_t, ile_f, igt_t, igt_f, ige_t, ige_f, ipos_t, ipos_f, igt0_t, igt0_f, nnn, beq0_t, beq0_f, bne0_t, bne0_f, Int.toNat_natCast, Int.toNat_zero, cond_true, cond_false, Bool.and_self, Bool.true_and, Bool.and_true, Bool.false_and, Bool.and_false, Bool.not_true, Bool.not_false, Bool.or_self, Bool.true_or, Bool.or_true, Bool.false_or, Bool.or_false]
      rw [if_neg (by omega), if_pos hr]
    · simp (disch := omega) only [wadd, wadd1, wadd64, wsubn, wsub1, wmul64, ilt_t, ilt_f, ile_t, ile_f, igt_t, igt_f, ige_t, ige_f, ipos_t, ipos_f, igt0_t, igt0_f, nnn, beq0_t, beq0_f, bne0_t, bne0_f, Int.toNat_natCast, Int.toNat_zero, cond_true, cond_false, Bool.and_self, Bool.true_and, Bool.and_true, Bool.false_and, Bool.and_false, Bool.not_true, Bool.not_false, Bool.or_self, Bool.true_or, Bool.or_true, Bool.false_or, Bool.or_false]
      refine hL _ ⟨i, by omega, ?_, rfl⟩ (by simp only [Int.toNat_natCast]; omega)
      rw [nv_drop_next _ a i (by omega), nv_drop_next _ b i (by omega), hd, h]
    · have hr := row_lt (by decide) hb (by omega) (by omega) hd.symm h
      simp (disch := omega) only [wadd, wadd1, wadd64, wsubn, wsub1, wmul64, ilt_t, ilt_f, ile_t, ile_f, igt_t, igt_f, ige_t, ige_f, ipos_t, ipos_f, igt0_t, igt0_f, nnn, beq0_t, beq0_f, bne0_t, bne0_f, Int.toNat_natCast, Int.toNat_zero, cond_true, cond_false, Bool.and_self, Bool.true_and, Bool.and_true, Bool.false_and, Bool.and_false, Bool.not_true, Bool.not_false, Bool.or_self, Bool.true_or, Bool.or_true, Bool.false_or, Bool.or_false]
      rw [if_neg (by omega), if_neg (by omega)]
/-- Cmp -/
theorem T166_eq {x y : Nat} (hx : x < (2 ^ 64) ^ 5000) (hy : y < (2 ^ 64) ^ 5000) : T166 (Dw x, Dw y, ()) = some (if x = y then 0 else if x < y then -1 else 1, ()) := by
  show t166 S163.pre S163.F W166_8 (Dw x) (Dw y) = _
  unfold t166
  have p0 := T163_dw hx
  have p1 := T163_dw hy
  have hX := Dw_ws hx
  have hY := Dw_ws hy
  have hlx := hX.2
  simp only [pre163 p0, fun163 p0, pre163 p1, fun163 p1, cond_true]
  clear p0 p1
  rcases Nat.lt_trichotomy (dg (2 ^ 64) x).length (dg (2 ^ 64) y).length with h | h | h
  · have hr := dg_len_lt (by decide) h
    have e : (((dg (2 ^ 64) x).length : Int) != ((dg (2 ^ 64) y).length : Int)) = true := bne_iff_ne.2 (by omega)
    simp (disch := omega) only [wadd, wadd1, wadd64, wsubn, wsub1, wmul64, ilt_t, ilt_f, ile_t, ile_f, igt_t, igt_f, ige_t, ige_f, ipos_t, ipos_f, igt0_t, igt0_f, nnn, beq0_t, beq0_f, bne0_t, bne0_f, Int.toNat_natCast, Int.toNat_zero, cond_true, cond_false, Bool.and_self, Bool.true_and, Bool.and_true, Bool.false_and, Bool.and_false, Bool.not_true, Bool.not_false, Bool.or_self, Bool.true_or, Bool.or_true, Bool.false_or, Bool.or_false, e]
    rw [if_neg (by omega), if_pos hr]
  · have hw := W166_eq _ _ hX.1 hY.1 hlx h
    rw [nv_Dw, nv_Dw] at hw
    have e : (((dg (2 ^ 64) x).length : Int) != ((dg (2 ^ 64) y).length : Int)) = false := by rw [h]; exact bne_self_eq_false _
    have e2 : IntKind.wrap .i64 (((dg (2 ^ 64) y).length : Int) - 1) = ((dg (2 ^ 64) x).length : Int) - 1 := by rw [wrapI (by omega)]; omega
    unfold Dw
    simp (disch := omega) only [wadd, wadd1, wadd64, wsubn, wsub1, wmul64, ilt_t, ilt_f, ile_t, ile_f, igt_t, igt_f, ige_t, ige_f, ipos_t, ipos_f, igt0_t, igt0_f, nnn, beq0_t, beq0_f, bne0_t, bne0_f, Int.toNat_natCast, Int.toNat_zero, cond_true, cond_false, Bool.and_self, Bool.true_and, Bool.and_true, Bool.false_and, Bool.and_false, Bool.not_true, Bool.not_false, Bool.or_self, Bool.true_or, Bool.or_true, Bool.false_or, Bool.or_false, e, e2, hw]
    by_cases he : x = y
    · rw [if_pos he, if_pos he]; first | rfl | skip
    · rw [if_neg he, if_neg he]; first | rfl | skip
  · have hr := dg_len_lt (by decide) h
    have e : (((dg (2 ^ 64) x).length : Int) != ((dg (2 ^ 64) y).length : Int)) = true := bne_iff_ne.2 (by omega)
    simp (disch := omega) only [wadd, wadd1, wadd64, wsubn, wsub1, wmul64, ilt_t, ilt_f, ile_t, ile_f, igt_t, igt_f, ige_t, ige_f, ipos_t, ipos_f, igt0_t, igt0_f, nnn, beq0_t, beq0_f, bne0_t, bne0_f, Int.toNat_natCast, Int.toNat_zero, cond_true, cond_false, Bool.and_self, Bool.true_and, Bool.and_true, Bool.false_and, Bool.and_false, Bool.not_true, Bool.not_false, Bool.or_self, Bool.true_or, Bool.or_true, Bool.false_or, Bool.or_false, e]
    rw [if_neg (by omega), if_neg (by omega)]
theorem wrapS (a b : Nat) (h : b ≤ 2 ^ 64) : IntKind.wrap .u64 ((a : Int) - (b : Int)) = (((a + 2 ^ 64 - b) % 2 ^ 64 : Nat) : Int) := by
  show ((a : Int) - (b : Int)) % 2 ^ 64 = _
  omega
/-- less -/
theorem W188_eq (a b : List Nat) (ha : ∀ x ∈ a, x < 2 ^ 64) (hb : ∀ x ∈ b, x < 2 ^ 64) (hla : a.length ≤ 1000000) (hba : b.length ≤ a.length) (hv : nv (2 ^ 64) b ≤ nv (2 ^ 64) a) :
    W188_5 (((a.length : Int), (Wd a, (Wd b, ((0 : Int), ((0 : Int), ((), ())))))), (Wd (List.replicate a.length 0), ())) = some (.inl (((), ()), (Wd (pd (2 ^ 64) a.length (nv (2 ^ 64) a - nv (2 ^ 64) b)), ()))) := by
  have key := lfix_ind (m188_5 S163.pre S163.F S183.pre S183.F S133.pre S133.F) (fun x => a.length - x.1.2.2.2.2.1.toNat)
    (fun x => ∃ (i : Nat) (out : List Nat) (c : Nat), i ≤ a.length ∧ out.length = i ∧ (∀ x ∈ out, x < 2 ^ 64) ∧ c ≤ 1 ∧ nv (2 ^ 64) (a.take i) + (2 ^ 64) ^ i * c = nv (2 ^ 64) (b.take i) + nv (2 ^ 64) out ∧
      x = (((a.length : Int), (Wd a, (Wd b, ((c : Int), ((i : Int), ((), ())))))), (Wd (out ++ (List.replicate a.length 0).drop i), ())))
    (fun _ => .inl (((), ()), (Wd (pd (2 ^ 64) a.length (nv (2 ^ 64) a - nv (2 ^ 64) b)), ()))) ?_ _
    ⟨0, [], 0, Nat.zero_le _, rfl, (fun x hx => by simp at hx), by decide, by simp [nv], rfl⟩
  · exact key
  intro L x hx hL
  obtain ⟨i, out, c, hi, hol, hod, hc, hov, rfl⟩ := hx
  unfold h188_5
  rcases Nat.lt_or_ge i a.length with hlt | hge
  · have hxa := getD_lt (by decide) ha i
    have hxb := getD_lt (by decide) hb i
    have hna := nv_take_next (2 ^ 64) a i
    have hnb := nv_take_next (2 ^ 64) b i
    have p2 := T183_eq b i
    have hset := fun v => set_drop (a := List.replicate a.length 0) (v := v) hol (by simp; omega)
    have hlen : (out ++ (List.replicate a.length 0).drop i).length = a.length := by simp; omega
    generalize hda : a.getD i 0 = da at *
    generalize b.getD i 0 = db at *
    have e1 : IntKind.wrap .u64 ((da : Int) - (db : Int)) = (((da + 2 ^ 64 - db) % 2 ^ 64 : Nat) : Int) := wrapS _ _ (by omega)
    have e2 : IntKind.wrap .u64 ((((da + 2 ^ 64 - db) % 2 ^ 64 : Nat) : Int) - (c : Int)) = (((da + 2 ^ 64 - db - c) % 2 ^ 64 : Nat) : Int) := by
      rw [wrapS _ _ (by omega)]; congr 1; omega
    have hgo : ∀ c' : Nat, c' = (if da < db + c then 1 else 0) → L (((a.length : Int), (Wd a, (Wd b, ((c' : Int), (((i + 1 : Nat) : Int), ((), ())))))), (Wd (out ++ [(da + 2 ^ 64 - db - c) % 2 ^ 64] ++ (List.replicate a.length 0).drop (i + 1)), ())) = _ := fun c' h =>
      hL _ ⟨i + 1, out ++ [(da + 2 ^ 64 - db - c) % 2 ^ 64], c', by omega, by simp; omega, app_lt hod (Nat.mod_lt _ (by decide)), by rw [h]; split <;> omega, by
        rw [hna, hnb, nv_snoc, hol, Nat.pow_succ]
        exact minus_step hov (by rw [h]; split <;> omega), rfl⟩ (by simp only [Int.toNat_natCast]; omega)
    simp (disch := omega) only [wadd, wadd1, wadd64, wsubn, wsub1, wmul64, ilt_t, ilt_f, ile_t, ile_f, igt_t, igt_f, ige_t, ige_f, ipos_t, ipos_f, igt0_t, igt0_f, nnn, beq0_t, beq0_f, bne0_t, bne0_f, Int.toNat_natCast, Int.toNat_zero, cond_true, cond_false, Bool.and_self, Bool.true_and, Bool.and_true, Bool.false_and, Bool.and_false, Bool.not_true, Bool.not_false, Bool.or_self, Bool.true_or, Bool.or_true, Bool.false_or, Bool.or_false, Wd_len, Wd_getD, hda, pre183 p2, fun183 p2, e1, e2, hlen]
    by_cases hcar : da < db + c
    · have hor : (decide ((da : Int) < (db : Int)) || ((da : Int) == (db : Int)) && ((c : Int) == 1)) = true := by
        simp only [Bool.or_eq_true, Bool.and_eq_true, decide_eq_true_eq, beq_iff_eq]; omega
      rw [hor, cond_true, Wd_set, hset]
      exact hgo 1 (by rw [if_pos hcar])
    · have hor : (decide ((da : Int) < (db : Int)) || ((da : Int) == (db : Int)) && ((c : Int) == 1)) = false := by
        rw [Bool.eq_false_iff]; intro h
        simp only [Bool.or_eq_true, Bool.and_eq_true, decide_eq_true_eq, beq_iff_eq] at h; omega
      rw [hor, cond_false, Wd_set, hset]
      exact hgo 0 (by rw [if_neg hcar])
  · have e : i = a.length := by omega
    subst e
    rw [List.take_length, List.take_of_length_le hba] at hov
    have hlt := nv_lt (B := 2 ^ 64) (by decide) out hod
    rw [hol] at hlt
    have hc0 : (2 ^ 64) ^ a.length * c = 0 := by
      rcases (show c = 0 ∨ c = 1 by omega) with h | h
      · rw [h, Nat.mul_zero]
      · rw [h, Nat.mul_one] at hov; omega
    have ho := pd_at (B := 2 ^ 64) (v := nv (2 ^ 64) a - nv (2 ^ 64) b) (by decide) hod hol (by omega)
    rw [List.drop_replicate, Nat.sub_self, List.replicate_zero, List.append_nil]
    simp (disch := omega) only [wadd, wadd1, wadd64, wsubn, wsub1, wmul64, ilt_t, ilt_f, ile_t, ile_f, igt_t, igt_f, ige_t, ige_f, ipos_t, ipos_f, igt0_t, igt0_f, nnn, beq0_t, beq0_f, bne0_t, bne0_f, Int.toNat_natCast, Int.toNat_zero, cond_true, cond_false, Bool.and_self, Bool.true_and, Bool.and_true, Bool.false_and, Bool.and_false, Bool.not_true, Bool.not_false, Bool.or_self, Bool.true_or, Bool.or_true, Bool.false_or, Bool.or_false]
    rw [← ho]
theorem T188_eq {x y : Nat} (hx : x < (2 ^ 64) ^ 5000) (h : y ≤ x) : T188 (Dw x, Dw y, ()) = some (Dw (x - y), ()) := by
  show t188 S163.pre S163.F S183.pre S183.F S133.pre S133.F W188_5 (Dw x) (Dw y) = _
  unfold t188
  have hy : y < (2 ^ 64) ^ 5000 := Nat.lt_of_le_of_lt h hx
  have p0 := T163_dw hx
  have hX := Dw_ws hx
  have hY := Dw_ws hy
  have hlx := hX.2
  have hw := W188_eq (dg (2 ^ 64) x) (dg (2 ^ 64) y) hX.1 hY.1 hlx (dg_len_mono (by decide) h) (by rw [nv_Dw, nv_Dw]; exact h)
  rw [nv_Dw, nv_Dw] at hw
  have hlt := dg_len_gt (B := 2 ^ 64) (by decide) x
  have q1 := T133_h (l := pd (2 ^ 64) (dg (2 ^ 64) x).length (x - y)) (v := x - y) ⟨pd_lt (by decide) _ _, by rw [pd_len]; exact hlx⟩ (pd_nv (by decide) _ _ (by omega))
  have e0 : decide ((((dg (2 ^ 64) x).length : Nat) : Int) * 8 ≤ 140737488355328) = true := decide_eq_true (by omega)
  simp (disch := omega) only [wadd, wadd1, wadd64, wsubn, wsub1, wmul64, ilt_t, ilt_f, ile_t, ile_f, igt_t, igt_f, ige_t, ige_f, ipos_t, ipos_f, igt0_t, igt0_f, nnn, beq0_t, beq0_f, bne0_t, bne0_f, Int.toNat_natCast, Int.toNat_zero, cond_true, cond_false, Bool.and_self, Bool.true_and, Bool.and_true, Bool.false_and, Bool.and_false, Bool.not_true, Bool.not_false, Bool.or_self, Bool.true_or, Bool.or_true, Bool.false_or, Bool.or_false, pre163 p0, fun163 p0, e0, Wd_rep]
  rw [show W188_5 (((((dg (2 ^ 64) x).length : Nat) : Int), (Dw x, (Dw y, ((0 : Int), ((0 : Int), ((), ())))))), (Wd (List.replicate (dg (2 ^ 64) x).length 0), ())) = _ from hw]
  show (bif S133.pre (Wd (pd (2 ^ 64) (dg (2 ^ 64) x).length (x - y)), ()) then some (S133.F (Wd (pd (2 ^ 64) (dg (2 ^ 64) x).length (x - y)), ())) else none) = _
  simp only [pre133 q1, fun133 q1, cond_true]
  rfl
end VL
namespace VL
open Go Vx
theorem set_same {l : List Nat} {j v : Nat} (hj : j < l.length) (h : l.getD j 0 = v) : l.set j v = l := by
  rw [List.getD_eq_getElem?_getD, List.getElem?_eq_getElem hj, Option.getD_some] at h
  subst h
  exact List.set_getElem_self hj
theorem W181_eq (a : List Nat) (ha : ∀ x ∈ a, x < 2 ^ 64) (hlen : a.length ≤ 1000000) (n : Nat) (hn : n ≤ 100000000) :
    W181_4 (((a.length : Int), (Wd a, ((n : Int), ((0 : Int), ((), ()))))), (Wd (pd (2 ^ 64) (a.length + n / 64 + 1) 0), ())) = some (.inl (((), ()), (Wd (pd (2 ^ 64) (a.length + n / 64 + 1) (2 ^ n * nv (2 ^ 64) a)), ()))) := by
  have hn64 : 64 * (n / 64) + n % 64 = n := Nat.div_add_mod n 64
  have hs : n % 64 < 64 := Nat.mod_lt _ (by decide)
  have key := lfix_ind (m181_4 S163.pre S163.F S133.pre S133.F) (fun x => a.length - x.1.2.2.2.1.toNat)
    (fun x => ∃ i : Nat, i ≤ a.length ∧ x = (((a.length : Int), (Wd a, ((n : Int), ((i : Int), ((), ()))))), (Wd (pd (2 ^ 64) (a.length + n / 64 + 1) (2 ^ n * nv (2 ^ 64) (a.take i))), ())))
    (fun _ => .inl (((), ()), (Wd (pd (2 ^ 64) (a.length + n / 64 + 1) (2 ^ n * nv (2 ^ 64) a)), ()))) ?_ _ ⟨0, Nat.zero_le _, rfl⟩
  · exact key
  intro L x hx hL
  obtain ⟨i, hi, rfl⟩ := hx
  unfold h181_4
  rcases Nat.lt_or_ge i a.length with hlt | hge
  · have hxl := getD_lt (by decide) ha i
    have ht := nv_lt (B := 2 ^ 64) (by decide) (a.take i) fun x hx => ha x (List.mem_of_mem_take hx)
    rw [List.length_take, Nat.min_eq_left (by omega), pow64] at ht
    generalize hw : n / 64 = w at *
    generalize hsd : n % 64 = s at *
    have hV : 2 ^ n * nv (2 ^ 64) (a.take i) < 2 ^ (64 * (i + w) + s) := by
      have e : 64 * (i + w) + s = n + 64 * i := by omega
      rw [e, Nat.pow_add _ n]
      exact Nat.mul_lt_mul_of_pos_left ht (Nat.two_pow_pos _)
    have hnext := nv_take_succ (2 ^ 64) a i hlt
    have hgo := hL (((a.length : Int), (Wd a, ((n : Int), (((i + 1 : Nat) : Int), ((), ()))))), (Wd (pd (2 ^ 64) (a.length + w + 1) (2 ^ n * nv (2 ^ 64) (a.take (i + 1)))), ())) ⟨i + 1, by omega, rfl⟩ (by simp only [Int.toNat_natCast]; omega)
    rw [hnext, Nat.mul_add, ← Nat.mul_assoc, show 2 ^ n * (2 ^ 64) ^ i = 2 ^ (64 * (i + w) + s) by rw [pow64, ← Nat.pow_add]; congr 1; omega] at hgo
    generalize hout : pd (2 ^ 64) (a.length + w + 1) (2 ^ n * nv (2 ^ 64) (a.take i)) = out at *
    obtain ⟨q1, q2, q3⟩ := left_step (k := i + w) hs hout.symm (by omega) hV hxl
    have hol : out.length = a.length + w + 1 := by rw [← hout, pd_len]
    have g1 : a.getD i 0 * 2 ^ s % 2 ^ 64 = (a.getD i 0 % 2 ^ (64 - s)) * 2 ^ s := by
      have : 2 ^ 64 = 2 ^ (64 - s) * 2 ^ s := by rw [← Nat.pow_add]; congr 1; omega
      rw [this, Nat.mul_mod_mul_right]
    have e8 : IntKind.wrap .i64 (64 - (s : Int)) = ((64 - s : Nat) : Int) := wsub 64 s (by omega) (by omega)
    have e9 := quo64 n (by omega)
    have e10 := tmod64 n
    rw [hw] at e9
    rw [hsd] at e10
    rcases Nat.eq_zero_or_pos s with h0 | h0
    · subst h0
      have hx0 : a.getD i 0 / 2 ^ (64 - 0) = 0 := Nat.div_eq_of_lt hxl
      rw [hx0] at q3
      have h1 : (out.set (i + w) (out.getD (i + w) 0 + a.getD i 0 % 2 ^ (64 - 0) * 2 ^ 0)).getD (i + w + 1) 0 = 0 := by
        rw [getD_set_ne (by omega), ← hout, pd_get _ _ _ _ (by omega), pow64]
        have : 2 ^ n * nv (2 ^ 64) (a.take i) < 2 ^ (64 * (i + w + 1)) := Nat.lt_of_lt_of_le hV (Nat.pow_le_pow_right (by decide) (by omega))
        rw [Nat.div_eq_of_lt this]
      rw [set_same (by simp [hol]; omega) h1] at q3
      simp (disch := omega) only [wadd, wadd1, wadd64, wsubn, wsub1, wmul64, ilt_t, ilt_f, ile_t, ile_f, igt_t, igt_f, ige_t, ige_f, ipos_t, ipos_f, igt0_t, igt0_f, nnn, beq0_t, beq0_f, bne0_t, bne0_f, Int.toNat_natCast, Int.toNat_zero, cond_true, cond_false, Bool.and_self, Bool.true_and, Bool.and_true, Bool.false_and, Bool.and_false, Bool.not_true, Bool.not_false, Bool.or_self, Bool.true_or, Bool.or_true, Bool.false_or, Bool.or_false, Wd_len, Wd_getD, e9, e10, wu_id, shlN _ 0 (by omega), g1, orN q1 q2, Wd_set, List.length_set, hol, q3]
      exact hgo
    · simp (disch := omega) only [wadd, wadd1, wadd64, wsubn, wsub1, wmul64, ilt_t, ilt_f, ile_t, ile_f, igt_t, igt_f, ige_t, ige_f, ipos_t, ipos_f, igt0_t, igt0_f, nnn, beq0_t, beq0_f, bne0_t, bne0_f, Int.toNat_natCast, Int.toNat_zero, cond_true, cond_false, Bool.and_self, Bool.true_and, Bool.and_true, Bool.false_and, Bool.and_false, Bool.not_true, Bool.not_false, Bool.or_self, Bool.true_or, Bool.or_true, Bool.false_or, Bool.or_false, Wd_len, Wd_getD, e8, e9, e10, wu_id, shlN _ s (by omega), shrN _ (64 - s) (by omega), g1, orN q1 q2, Wd_set, List.length_set, hol, q3]
      exact hgo
  · have e : i = a.length := by omega
    subst e
    rw [List.take_length]
    simp (disch := omega) only [wadd, wadd1, wadd64, wsubn, wsub1, wmul64, ilt_t, ilt_f, ile_t, ile_f, igt_t, igt_f, ige_t, ige_f, ipos_t, ipos_f, igt0_t, igt0_f, nnn, beq0_t, beq0_f, bne0_t, bne0_f, Int.toNat_natCast, Int.toNat_zero, cond_true, cond_false, Bool.and_self, Bool.true_and, Bool.and_true, Bool.false_and, Bool.and_false, Bool.not_true, Bool.not_false, Bool.or_self, Bool.true_or, Bool.or_true, Bool.false_or, Bool.or_false]
/-- Up -/
theorem T181_eq {x : Nat} (hx : x < (2 ^ 64) ^ 5000) (n : Nat) (hn : n ≤ 1000000) : T181 (Dw x, (n : Int), ()) = some (Dw (x * 2 ^ n), ()) := by
  show t181 S163.pre S163.F S133.pre S133.F W181_4 (Dw x) n = _
  unfold t181
  have p0 := T163_dw hx
  have hX := Dw_ws hx
  have hlx := dg_len_le (B := 2 ^ 64) (by decide) _ _ hx
  have hlt := dg_len_gt (B := 2 ^ 64) (by decide) x
  have hw := W181_eq (dg (2 ^ 64) x) hX.1 hX.2 n (by omega)
  rw [nv_Dw] at hw
  have e3 : decide ((((dg (2 ^ 64) x).length + n / 64 + 1 : Nat) : Int) * 8 ≤ 140737488355328) = true := decide_eq_true (by omega)
  have hV : 2 ^ n * x < (2 ^ 64) ^ ((dg (2 ^ 64) x).length + n / 64 + 1) := by
    rw [pow64] at hlt ⊢
    have h1 : 2 ^ n * x < 2 ^ n * 2 ^ (64 * (dg (2 ^ 64) x).length) := Nat.mul_lt_mul_of_pos_left hlt (Nat.two_pow_pos _)
    rw [← Nat.pow_add] at h1
    exact Nat.lt_of_lt_of_le h1 (Nat.pow_le_pow_right (by decide) (by omega))
  have p1 := T133_h (l := pd (2 ^ 64) ((dg (2 ^ 64) x).length + n / 64 + 1) (2 ^ n * x)) (v := 2 ^ n * x) ⟨pd_lt (by decide) _ _, by rw [pd_len]; omega⟩ (pd_nv (by decide) _ _ hV)
  rw [pd_zero] at hw
  generalize pd (2 ^ 64) ((dg (2 ^ 64) x).length + n / 64 + 1) (2 ^ n * x) = out at *
  simp (disch := omega) only [wadd, wadd1, wadd64, wsubn, wsub1, wmul64, ilt_t, ilt_f, ile_t, ile_f, igt_t, igt_f, ige_t, ige_f, ipos_t, ipos_f, igt0_t, igt0_f, nnn, beq0_t, beq0_f, bne0_t, bne0_f, Int.toNat_natCast, Int.toNat_zero, cond_true, cond_false, Bool.and_self, Bool.true_and, Bool.and_true, Bool.false_and, Bool.and_false, Bool.not_true, Bool.not_false, Bool.or_self, Bool.true_or, Bool.or_true, Bool.false_or, Bool.or_false, pre163 p0, fun163 p0, quo64 n (by omega), e3, Wd_rep]
  rw [show W181_4 (((((dg (2 ^ 64) x).length : Nat) : Int), (Dw x, ((n : Int), ((0 : Int), ((), ()))))), (Wd (List.replicate ((dg (2 ^ 64) x).length + n / 64 + 1) 0), ())) = _ from hw]
  show (bif S133.pre (Wd out, ()) then some (S133.F (Wd out, ())) else none) = _
  rw [pre133 p1, fun133 p1, Nat.mul_comm]
  rfl
theorem T164_eq {x : Nat} (hx : x < (2 ^ 64) ^ 5000) (n : Nat) (hn : n ≤ 1000000) : T164 (Dw x, (n : Int), ()) = some (Dw (x * 2 ^ n), ()) := by
  show t164 S181.pre S181.F (Dw x) n = _
  unfold t164
  have p0 := T181_eq hx n hn
  simp only [pre181 p0, fun181 p0, cond_true]
theorem W187_eq (a : List Nat) (ha : ∀ x ∈ a, x < 2 ^ 64) (hlen : a.length ≤ 1000000) (n : Nat) (hn : n / 64 ≤ a.length) :
    W187_6 (((a.length : Int), (Wd a, ((n : Int), ((0 : Int), ((), ()))))), (Wd (List.replicate (a.length - n / 64) 0), ())) = some (.inl (((), ()), (Wd (shrL (n % 64) (a.drop (n / 64))), ()))) := by
  have hs : n % 64 < 64 := Nat.mod_lt _ (by decide)
  have hll := shrL_len (n % 64) (a.drop (n / 64))
  rw [List.length_drop] at hll
  have key := lfix_ind (m187_6 S138.pre S138.F S163.pre S163.F S133.pre S133.F) (fun x => a.length - n / 64 - x.1.2.2.2.1.toNat)
    (fun x => ∃ i : Nat, i ≤ a.length - n / 64 ∧ x = (((a.length : Int), (Wd a, ((n : Int), ((i : Int), ((), ()))))), (Wd ((shrL (n % 64) (a.drop (n / 64))).take i ++ (List.replicate (a.length - n / 64) 0).drop i), ())))
    (fun _ => .inl (((), ()), (Wd (shrL (n % 64) (a.drop (n / 64))), ()))) ?_ _ ⟨0, Nat.zero_le _, rfl⟩
  · exact key
  intro L x hx hL
  obtain ⟨i, hi, rfl⟩ := hx
  unfold h187_6
  have hget := fun h => shrL_get (n % 64) (a.drop (n / 64)) i h
  rw [List.length_drop] at hget
  have e9 := quo64 n (by omega)
  have e10 := tmod64 n
  have d1 : (a.drop (n / 64)).getD i 0 = a.getD (i + n / 64) 0 := by
    rw [List.getD_eq_getElem?_getD, List.getElem?_drop, List.getD_eq_getElem?_getD, Nat.add_comm]
  have d2 : (a.drop (n / 64)).getD (i + 1) 0 = a.getD (i + n / 64 + 1) 0 := by
    rw [List.getD_eq_getElem?_getD, List.getElem?_drop, List.getD_eq_getElem?_getD]; congr 2; omega
  rw [d1, d2] at hget
  generalize hw : n / 64 = w at *
  generalize hsd : n % 64 = s at *
  have hlt' : (List.take i (shrL s (a.drop w)) ++ (List.replicate (a.length - w) 0).drop i).length = a.length - w := by
    rw [List.length_append, List.length_take, List.length_drop, List.length_replicate, hll]; omega
  rcases Nat.lt_or_ge i (a.length - w) with hlt | hge
  · have hget := hget hlt
    have hgo := hL (((a.length : Int), (Wd a, ((n : Int), (((i + 1 : Nat) : Int), ((), ()))))), (Wd ((shrL s (a.drop w)).take (i + 1) ++ (List.replicate (a.length - w) 0).drop (i + 1)), ())) ⟨i + 1, by omega, rfl⟩ (by simp only [Int.toNat_natCast]; omega)
    rw [List.take_add_one, hget] at hgo
    have hset := fun v => set_drop (out := (shrL s (a.drop w)).take i) (a := List.replicate (a.length - w) 0) (v := v) (i := i) (by rw [List.length_take, hll]; omega) (by simp; omega)
    have hsame : ∀ v v', ((List.take i (shrL s (a.drop w)) ++ (List.replicate (a.length - w) 0).drop i).set i v).set i v' = (List.take i (shrL s (a.drop w)) ++ (List.replicate (a.length - w) 0).drop i).set i v' := fun v v' => List.set_set ..
    have hgt : ∀ v, ((List.take i (shrL s (a.drop w)) ++ (List.replicate (a.length - w) 0).drop i).set i v).getD i 0 = v := fun v => by
      rw [List.getD_eq_getElem?_getD, List.getElem?_set_self (by omega)]; rfl
    have hx1 := getD_lt (by decide) ha (i + w)
    have hx2 := getD_lt (by decide) ha (i + w + 1)
    obtain ⟨w1, w2⟩ := shr_word (s := s) (by omega) (x := a.getD (i + w) 0) (y := a.getD (i + w + 1) 0) hx1
    by_cases hc : 0 < s ∧ i + w + 1 < a.length
    · have e8 : IntKind.wrap .i64 (64 - (s : Int)) = ((64 - s : Nat) : Int) := wsub 64 s (by omega) (by omega)
      have g1 : a.getD (i + w + 1) 0 * 2 ^ (64 - s) % 2 ^ 64 = (a.getD (i + w + 1) 0 % 2 ^ s) * 2 ^ (64 - s) := by
        have : 2 ^ 64 = 2 ^ s * 2 ^ (64 - s) := pow_parts (by omega)
        rw [this, Nat.mul_mod_mul_right]
      obtain ⟨hc1, hc2⟩ := hc
      simp (disch := omega) only [wadd, wadd1, wadd64, wsubn, wsub1, wmul64, ilt_t, ilt_f, ile_t, ile_f, igt_t, igt_f, ige_t, ige_f, ipos_t, ipos_f, igt0_t, igt0_f, nnn, beq0_t, beq0_f, bne0_t, bne0_f, Int.toNat_natCast, Int.toNat_zero, cond_true, cond_false, Bool.and_self, Bool.true_and, Bool.and_true, Bool.false_and, Bool.and_false, Bool.not_true, Bool.not_false, Bool.or_self, Bool.true_or, Bool.or_true, Bool.false_or, Bool.or_false, Wd_len, Wd_getD, e8, e9, e10, wu_id, shlN _ (64 - s) (by omega), shrN _ s (by omega), g1, Wd_set, List.length_set, hlt', hgt, orN w1 w2, hsame]
      rw [hset]
      exact hgo
    · have hz : (a.getD (i + w + 1) 0 % 2 ^ s) * 2 ^ (64 - s) = 0 := by
        rcases Nat.eq_zero_or_pos s with h | h
        · subst h; rw [Nat.pow_zero, Nat.mod_one, Nat.zero_mul]
        · have : a.getD (i + w + 1) 0 = 0 := by rw [List.getD_eq_getElem?_getD, List.getElem?_eq_none (by omega)]; rfl
          rw [this, Nat.zero_mod, Nat.zero_mul]
      rw [hz, Nat.add_zero] at hgo
      have hand : (decide ((s : Int) > 0) && decide (((i + w + 1 : Nat) : Int) < (a.length : Int))) = false := by
        rw [Bool.eq_false_iff]; intro h
        simp only [Bool.and_eq_true, decide_eq_true_eq] at h; omega
      simp (disch := omega) only [wadd, wadd1, wadd64, wsubn, wsub1, wmul64, ilt_t, ilt_f, ile_t, ile_f, igt_t, igt_f, ige_t, ige_f, ipos_t, ipos_f, igt0_t, igt0_f, nnn, beq0_t, beq0_f, bne0_t, bne0_f, Int.toNat_natCast, Int.toNat_zero, cond_true, cond_false, Bool.and_self, Bool.true_and, Bool.and_true, Bool.false_and, Bool.and_false, Bool.not_true, Bool.not_false, Bool.or_self, Bool.true_or, Bool.or_true, Bool.false_or, Bool.or_false, Wd_len, Wd_getD, e9, e10, hand, wu_id, shrN _ s (by omega), Wd_set, hlt', hset]
      exact hgo
  · have e : i = a.length - w := by omega
    have h1 : (shrL s (a.drop w)).take i = shrL s (a.drop w) := List.take_of_length_le (by omega)
    have h2 : (List.replicate (a.length - w) 0).drop i = ([] : List Nat) := List.drop_eq_nil_of_le (by simp; omega)
    simp (disch := omega) only [wadd, wadd1, wadd64, wsubn, wsub1, wmul64, ilt_t, ilt_f, ile_t, ile_f, igt_t, igt_f, ige_t, ige_f, ipos_t, ipos_f, igt0_t, igt0_f, nnn, beq0_t, beq0_f, bne0_t, bne0_f, Int.toNat_natCast, Int.toNat_zero, cond_true, cond_false, Bool.and_self, Bool.true_and, Bool.and_true, Bool.false_and, Bool.and_false, Bool.not_true, Bool.not_false, Bool.or_self, Bool.true_or, Bool.or_true, Bool.false_or, Bool.or_false, Wd_len, hlt']
    rw [h1, h2, List.append_nil]
/-- down -/
theorem T187_eq {x : Nat} (hx : x < (2 ^ 64) ^ 5000) (n : Nat) (hn : n ≤ 1000000) : T187 (Dw x, (n : Int), ()) = some (Dw (x / 2 ^ n), ()) := by
  show t187 S138.pre S138.F S163.pre S163.F S133.pre S133.F W187_6 (Dw x) n = _
  unfold t187
  have p0 := T163_dw hx
  have p1 := T138_dw hx
  have hX := Dw_ws hx
  have hlx := dg_len_le (B := 2 ^ 64) (by decide) _ _ hx
  have hlt := blen_lt x
  simp only [pre138 p1, fun138 p1, cond_true]
  rcases Nat.lt_or_ge n (blen x) with h | h
  · have hb : blen x ≤ 64 * (dg (2 ^ 64) x).length := by
      have := dg_len_gt (B := 2 ^ 64) (by decide) x
      rw [pow64] at this
      exact blen_bound this
    have hw := W187_eq (dg (2 ^ 64) x) hX.1 hX.2 n (by omega)
    have hv : nv (2 ^ 64) (shrL (n % 64) ((dg (2 ^ 64) x).drop (n / 64))) = x / 2 ^ n := by
      rw [nv_shrL (by omega)]
      have hsp := nv_split (2 ^ 64) (dg (2 ^ 64) x) (n / 64) (by omega)
      rw [nv_Dw] at hsp
      have ht := nv_lt (B := 2 ^ 64) (by decide) ((dg (2 ^ 64) x).take (n / 64)) fun y hy => hX.1 y (List.mem_of_mem_take hy)
      rw [List.length_take, Nat.min_eq_left (by omega)] at ht
      have hp : 0 < (2 ^ 64) ^ (n / 64) := Nat.pow_pos (by decide)
      have : nv (2 ^ 64) ((dg (2 ^ 64) x).drop (n / 64)) = x / (2 ^ 64) ^ (n / 64) := by
        generalize nv (2 ^ 64) ((dg (2 ^ 64) x).drop (n / 64)) = D at *
        generalize nv (2 ^ 64) ((dg (2 ^ 64) x).take (n / 64)) = C at *
        rw [hsp, Nat.add_mul_div_left _ _ hp, Nat.div_eq_of_lt ht, Nat.zero_add]
      rw [this, Nat.div_div_eq_div_mul, pow64, ← Nat.pow_add, Nat.div_add_mod]
    have hm : ∀ y ∈ shrL (n % 64) ((dg (2 ^ 64) x).drop (n / 64)), y < 2 ^ 64 := by
      intro y hy
      obtain ⟨i, hi, rfl⟩ := List.getElem_of_mem hy
      have hi' := hi
      rw [shrL_len] at hi'
      have := shrL_get (n % 64) _ i hi'
      rw [List.getElem?_eq_getElem hi] at this
      injection this with this
      rw [this]
      exact (shr_word (by omega) (getD_lt (by decide) (fun z hz => hX.1 z (List.mem_of_mem_drop hz)) i)).2
    have p2 := T133_h (l := shrL (n % 64) ((dg (2 ^ 64) x).drop (n / 64))) (v := x / 2 ^ n) ⟨hm, by rw [shrL_len, List.length_drop]; omega⟩ hv
    have e3 : decide ((((dg (2 ^ 64) x).length - n / 64 : Nat) : Int) * 8 ≤ 140737488355328) = true := decide_eq_true (by omega)
    generalize shrL (n % 64) ((dg (2 ^ 64) x).drop (n / 64)) = out at *
    simp (disch := omega) only [wadd, wadd1, wadd64, wsubn, wsub1, wmul64, ilt_t, ilt_f, ile_t, ile_f, igt_t, igt_f, ige_t, ige_f, ipos_t, ipos_f, igt0_t, igt0_f, nnn, beq0_t, beq0_f, bne0_t, bne0_f, Int.toNat_natCast, Int.toNat_zero, cond_true, cond_false, Bool.and_self, Bool.true_and, Bool.and_true, Bool.false_and, Bool.and_false, Bool.not_true, Bool.not_false, Bool.or_self, Bool.true_or, Bool.or_true, Bool.false_or, Bool.or_false, pre163 p0, fun163 p0, quo64 n (by omega), e3, Wd_rep]
    rw [show W187_6 (((((dg (2 ^ 64) x).length : Nat) : Int), (Dw x, ((n : Int), ((0 : Int), ((), ()))))), (Wd (List.replicate ((dg (2 ^ 64) x).length - n / 64) 0), ())) = _ from hw]
    show (bif S133.pre (Wd out, ()) then some (S133.F (Wd out, ())) else none) = _
    rw [pre133 p2, fun133 p2]
    rfl
  · have h0 : x / 2 ^ n = 0 := Nat.div_eq_of_lt (Nat.lt_of_lt_of_le hlt (Nat.pow_le_pow_right (by decide) h))
    simp (disch := omega) only [wadd, wadd1, wadd64, wsubn, wsub1, wmul64, ilt_t, ilt_f, ile_t, ile_f, igt_t, igt_f, ige_t, ige_f, ipos_t, ipos_f, igt0_t, igt0_f, nnn, beq0_t, beq0_f, bne0_t, bne0_f, Int.toNat_natCast, Int.toNat_zero, cond_true, cond_false, Bool.and_self, Bool.true_and, Bool.and_true, Bool.false_and, Bool.and_false, Bool.not_true, Bool.not_false, Bool.or_self, Bool.true_or, Bool.or_true, Bool.false_or, Bool.or_false]
    rw [h0, Dw_zero]
/-- one bit set -/
theorem bit_set {K V i : Nat} (hK : i / 64 < K) (hV : V % 2 ^ (i + 1) = 0) (hlt : V < (2 ^ 64) ^ K) :
    (pd (2 ^ 64) K V).getD (i / 64) 0 < 2 ^ 64 ∧ (pd (2 ^ 64) K V).getD (i / 64) 0 ||| 2 ^ (i % 64) = (pd (2 ^ 64) K V).getD (i / 64) 0 + 2 ^ (i % 64) ∧
      ((pd (2 ^ 64) K V).set (i / 64) ((pd (2 ^ 64) K V).getD (i / 64) 0 + 2 ^ (i % 64)) = pd (2 ^ 64) K (V + 2 ^ i)) := by
  have hB : 0 < 2 ^ 64 := by decide
  have hs : i % 64 < 64 := Nat.mod_lt _ (by decide)
  have hi : 64 * (i / 64) + i % 64 = i := Nat.div_add_mod i 64
  have hg := pd_get (2 ^ 64) K V (i / 64) hK
  have hg64 : (pd (2 ^ 64) K V).getD (i / 64) 0 < 2 ^ 64 := by rw [hg]; exact Nat.mod_lt _ hB
  have hall := pd_lt hB K V
  have hlen := pd_len (2 ^ 64) K V
  have hnv := pd_nv hB K V hlt
  obtain ⟨c, hc⟩ : ∃ c, V / (2 ^ 64) ^ (i / 64) % 2 ^ 64 = 2 ^ (i % 64 + 1) * c := by
    obtain ⟨d, hd⟩ := Nat.dvd_of_mod_eq_zero hV
    have e1 : V / (2 ^ 64) ^ (i / 64) = 2 ^ (i % 64 + 1) * d := by
      rw [hd, pow64, show i + 1 = 64 * (i / 64) + (i % 64 + 1) by omega, Nat.pow_add, Nat.mul_assoc, Nat.mul_div_cancel_left _ (Nat.two_pow_pos _)]
    rw [e1]
    have e2 : 2 ^ 64 = 2 ^ (i % 64 + 1) * 2 ^ (63 - i % 64) := by rw [← Nat.pow_add]; congr 1; omega
    rw [e2, Nat.mul_mod_mul_left]
    exact ⟨_, rfl⟩
  rw [hc] at hg
  have hpl : 2 ^ (i % 64) < 2 ^ (i % 64 + 1) := Nat.pow_lt_pow_right (by decide) (by omega)
  have hor : (pd (2 ^ 64) K V).getD (i / 64) 0 ||| 2 ^ (i % 64) = (pd (2 ^ 64) K V).getD (i / 64) 0 + 2 ^ (i % 64) := by
    rw [hg]; exact (Nat.two_pow_add_eq_or_of_lt hpl c).symm
  have hsum : (pd (2 ^ 64) K V).getD (i / 64) 0 + 2 ^ (i % 64) < 2 ^ 64 := by
    have e2 : 2 ^ 64 = 2 ^ (i % 64 + 1) * 2 ^ (63 - i % 64) := by rw [← Nat.pow_add]; congr 1; omega
    rw [hg] at hg64 ⊢
    rw [e2] at hg64 ⊢
    have hcl := Nat.lt_of_mul_lt_mul_left hg64
    have : 2 ^ (i % 64 + 1) * (c + 1) ≤ 2 ^ (i % 64 + 1) * 2 ^ (63 - i % 64) := Nat.mul_le_mul_left _ hcl
    rw [Nat.mul_add, Nat.mul_one] at this
    omega
  refine ⟨hg64, hor, ?_⟩
  generalize hO : pd (2 ^ 64) K V = O at *
  refine pd_at hB (set_lt hall hsum) (by rw [List.length_set, hlen]) ?_
  have g1 := nv_set (2 ^ 64) O (i / 64) (O.getD (i / 64) 0 + 2 ^ (i % 64)) (by omega)
  rw [hnv, Nat.mul_add] at g1
  have e3 : (2 ^ 64) ^ (i / 64) * 2 ^ (i % 64) = 2 ^ i := by rw [pow64, ← Nat.pow_add, hi]
  rw [e3] at g1
  omega
theorem div_next (x y i : Nat) (hy : 0 < y) :
    (if y ≤ 2 * (x / 2 ^ (i + 1) % y) + x / 2 ^ i % 2 then (2 * (x / 2 ^ (i + 1) % y) + x / 2 ^ i % 2 - y = x / 2 ^ i % y ∧ x / 2 ^ i / y * 2 ^ i = x / 2 ^ (i + 1) / y * 2 ^ (i + 1) + 2 ^ i)
      else (2 * (x / 2 ^ (i + 1) % y) + x / 2 ^ i % 2 = x / 2 ^ i % y ∧ x / 2 ^ i / y * 2 ^ i = x / 2 ^ (i + 1) / y * 2 ^ (i + 1))) := by
  have e1 : x / 2 ^ (i + 1) = x / 2 ^ i / 2 := by rw [Nat.pow_succ, Nat.div_div_eq_div_mul]
  rw [e1, Nat.pow_succ]
  generalize x / 2 ^ i = z
  generalize 2 ^ i = P
  have hz : z = 2 * (z / 2) + z % 2 := by omega
  have hd := Nat.div_add_mod (z / 2) y
  have hr := Nat.mod_lt (z / 2) hy
  have hz2 : z % 2 < 2 := Nat.mod_lt _ (by decide)
  generalize z / 2 / y = Q at *
  generalize z / 2 % y = R at *
  generalize z % 2 = b at *
  have hz3 : z = y * (2 * Q) + (2 * R + b) := by
    rw [hz, ← hd, Nat.mul_add, ← Nat.mul_assoc, Nat.mul_comm 2 y, Nat.mul_assoc, Nat.add_assoc]
  split
  · rename_i h
    have hz4 : z = (2 * R + b - y) + y * (2 * Q + 1) := by rw [hz3, Nat.mul_add y, Nat.mul_one]; omega
    have hm : z % y = 2 * R + b - y := by rw [hz4, Nat.add_mul_mod_self_left]; exact Nat.mod_eq_of_lt (by omega)
    have hq : z / y = 2 * Q + 1 := by rw [hz4, Nat.add_mul_div_left _ _ hy, Nat.div_eq_of_lt (by omega), Nat.zero_add]
    rw [hm, hq]
    refine ⟨rfl, ?_⟩
    rw [Nat.add_mul, Nat.one_mul, Nat.mul_comm 2 Q, Nat.mul_assoc, Nat.mul_comm 2 P]
  · rename_i h
    have hz4 : z = (2 * R + b) + y * (2 * Q) := by rw [hz3]; omega
    have hm : z % y = 2 * R + b := by rw [hz4, Nat.add_mul_mod_self_left]; exact Nat.mod_eq_of_lt (by omega)
    have hq : z / y = 2 * Q := by rw [hz4, Nat.add_mul_div_left _ _ hy, Nat.div_eq_of_lt (by omega), Nat.zero_add]
    rw [hm, hq]
    refine ⟨rfl, ?_⟩
    rw [Nat.mul_comm 2 Q, Nat.mul_assoc, Nat.mul_comm 2 P]
theorem one_shl (s : Nat) (hs : s < 64) : shlI .u64 (1 : Int) (s : Int) = ((2 ^ s : Nat) : Int) := by
  have := shlN 1 s (by omega)
  rw [Nat.one_mul, Nat.mod_eq_of_lt (Nat.pow_lt_pow_right (by decide) hs)] at this
  exact this
theorem W182_eq {x y : Nat} (hx : x < (2 ^ 64) ^ 4000) (hy : 0 < y) (hy2 : y < (2 ^ 64) ^ 4000) (j : Nat) (hj : j ≤ 64 * (dg (2 ^ 64) x).length) :
    W182_8 ((Dw x, (Dw y, ((j : Int) - 1, ((), (Dw (x / 2 ^ j % y), ()))))), (Wd (pd (2 ^ 64) (dg (2 ^ 64) x).length (x / 2 ^ j / y * 2 ^ j)), ())) =
      some (.inl (((), (Dw (x % y), ())), (Wd (pd (2 ^ 64) (dg (2 ^ 64) x).length (x / y)), ()))) := by
  have hlx := dg_len_le (B := 2 ^ 64) (by decide) _ _ hx
  have hgt := dg_len_gt (B := 2 ^ 64) (by decide) x
  have hmon : (2 ^ 64) ^ 4000 * 2 < (2 ^ 64) ^ 5000 := by decide +kernel
  have key := lfix_ind (m182_8 S138.pre S138.F S163.pre S163.F S187.pre S187.F S181.pre S181.F S167.pre S167.F S168.pre S168.F S166.pre S166.F S188.pre S188.F S133.pre S133.F) (fun x => (x.1.2.2.1 + 1).toNat)
    (fun s => ∃ j : Nat, j ≤ 64 * (dg (2 ^ 64) x).length ∧ s = ((Dw x, (Dw y, ((j : Int) - 1, ((), (Dw (x / 2 ^ j % y), ()))))), (Wd (pd (2 ^ 64) (dg (2 ^ 64) x).length (x / 2 ^ j / y * 2 ^ j)), ())))
    (fun _ => .inl (((), (Dw (x % y), ())), (Wd (pd (2 ^ 64) (dg (2 ^ 64) x).length (x / y)), ()))) ?_ _ ⟨j, hj, rfl⟩
  · exact key
  intro L s hs hL
  obtain ⟨j, hj, rfl⟩ := hs
  unfold h182_8
  rcases j with _ | i
  · have e1 : decide ((((0 : Nat) : Int) - 1) ≥ 0) = false := rfl
    simp only [e1, cond_false, Nat.pow_zero, Nat.div_one, Nat.mul_one]
  · have e0 : (((i + 1 : Nat) : Int) - 1) = (i : Int) := by omega
    have e2 : IntKind.wrap .i64 ((i : Int) - 1) = (i : Int) - 1 := wrapI (by omega)
    have e3 : decide ((i : Int) ≥ 0) = true := decide_eq_true (by omega)
    have hrl := Nat.mod_lt (x / 2 ^ (i + 1)) hy
    have hR5 : x / 2 ^ (i + 1) % y < (2 ^ 64) ^ 5000 := by omega
    have h2R : x / 2 ^ (i + 1) % y * 2 ^ 1 < (2 ^ 64) ^ 5000 := by omega
    have hz2 : x / 2 ^ i % 2 < 2 := Nat.mod_lt _ (by decide)
    have h2R1 : x / 2 ^ (i + 1) % y * 2 ^ 1 + 1 < (2 ^ 64) ^ 5000 := by omega
    have p181 := T181_eq hR5 1 (by omega)
    have p181 : T181 (Dw (x / 2 ^ (i + 1) % y), (1 : Int), ()) = _ := p181
    have p167 := T167_dw (x := x) (by omega) i (by omega)
    have p168 := T168_dw h2R (y := 1) (by omega)
    rw [Dw_one] at p168
    have hnext := div_next x y i hy
    have hiK : i / 64 < (dg (2 ^ 64) x).length := by omega
    have hVx : x / 2 ^ (i + 1) / y * 2 ^ (i + 1) ≤ x := by
      have h1 : x / 2 ^ (i + 1) / y * 2 ^ (i + 1) ≤ x / 2 ^ (i + 1) * 2 ^ (i + 1) := Nat.mul_le_mul_right _ (Nat.div_le_self _ _)
      have h2 := Nat.div_mul_le_self x (2 ^ (i + 1))
      omega
    obtain ⟨b1, b2, b3⟩ := bit_set (i := i) hiK (V := x / 2 ^ (i + 1) / y * 2 ^ (i + 1)) (Nat.mul_mod_left _ _) (by omega)
    have hol := pd_len (2 ^ 64) (dg (2 ^ 64) x).length (x / 2 ^ (i + 1) / y * 2 ^ (i + 1))
    have hone : 2 ^ (i % 64) < 2 ^ 64 := Nat.pow_lt_pow_right (by decide) (by omega)
    have hgo := hL ((Dw x, (Dw y, ((i : Int) - 1, ((), (Dw (x / 2 ^ i % y), ()))))), (Wd (pd (2 ^ 64) (dg (2 ^ 64) x).length (x / 2 ^ i / y * 2 ^ i)), ())) ⟨i, by omega, rfl⟩ (by simp only; omega)
    generalize hO : pd (2 ^ 64) (dg (2 ^ 64) x).length (x / 2 ^ (i + 1) / y * 2 ^ (i + 1)) = O at *
    have e9 := quo64 i (by omega)
    have e10 := tmod64 i
    simp only [e0, e3, cond_true, pre181 p181, fun181 p181, pre167 p167, fun167 p167]
    rcases (show x / 2 ^ i % 2 = 0 ∨ x / 2 ^ i % 2 = 1 by omega) with hb | hb
    · rw [hb] at hnext ⊢
      have eb : (((0 : Nat) : Int) == 1) = false := rfl
      have p166 := T166_eq h2R (y := y) (by omega)
      by_cases hc : y ≤ 2 * (x / 2 ^ (i + 1) % y) + 0
      · rw [if_pos hc] at hnext
        have p188 := T188_eq h2R (y := y) (by omega)
        rw [show x / 2 ^ (i + 1) % y * 2 ^ 1 - y = x / 2 ^ i % y by omega] at p188
        rw [hnext.2, ← b3] at hgo
        have ec : decide ((if x / 2 ^ (i + 1) % y * 2 ^ 1 = y then (0 : Int) else if x / 2 ^ (i + 1) % y * 2 ^ 1 < y then -1 else 1) ≥ 0) = true := by
          apply decide_eq_true; split
          · omega
          · rw [if_neg (by omega)]; omega
        simp (disch := omega) only [wadd, wadd1, wadd64, wsubn, wsub1, wmul64, ilt_t, ilt_f, ile_t, ile_f, igt_t, igt_f, ige_t, ige_f, ipos_t, ipos_f, igt0_t, igt0_f, nnn, beq0_t, beq0_f, bne0_t, bne0_f, Int.toNat_natCast, Int.toNat_zero, cond_true, cond_false, Bool.and_self, Bool.true_and, Bool.and_true, Bool.false_and, Bool.and_false, Bool.not_true, Bool.not_false, Bool.or_self, Bool.true_or, Bool.or_true, Bool.false_or, Bool.or_false, eb, pre166 p166, fun166 p166, ec, pre188 p188, fun188 p188, e9, e10, Wd_len, hol, Wd_getD, wu_id, one_shl, orN2 b1 hone, b2, Wd_set, e2]
        exact hgo
      · rw [if_neg hc] at hnext
        have ec : decide ((if x / 2 ^ (i + 1) % y * 2 ^ 1 = y then (0 : Int) else if x / 2 ^ (i + 1) % y * 2 ^ 1 < y then -1 else 1) ≥ 0) = false := by
          apply decide_eq_false
          rw [if_neg (by omega), if_pos (by omega)]; omega
        rw [hnext.2, hO] at hgo
        have e5 : x / 2 ^ (i + 1) % y * 2 ^ 1 = x / 2 ^ i % y := by omega
        simp (disch := omega) only [wadd, wadd1, wadd64, wsubn, wsub1, wmul64, ilt_t, ilt_f, ile_t, ile_f, igt_t, igt_f, ige_t, ige_f, ipos_t, ipos_f, igt0_t, igt0_f, nnn, beq0_t, beq0_f, bne0_t, bne0_f, Int.toNat_natCast, Int.toNat_zero, cond_true, cond_false, Bool.and_self, Bool.true_and, Bool.and_true, Bool.false_and, Bool.and_false, Bool.not_true, Bool.not_false, Bool.or_self, Bool.true_or, Bool.or_true, Bool.false_or, Bool.or_false, eb, pre166 p166, fun166 p166, ec, e2]
        rw [e5]
        exact hgo
    · rw [hb] at hnext ⊢
      have eb : (((1 : Nat) : Int) == 1) = true := rfl
      have p166 := T166_eq h2R1 (y := y) (by omega)
      by_cases hc : y ≤ 2 * (x / 2 ^ (i + 1) % y) + 1
      · rw [if_pos hc] at hnext
        have p188 := T188_eq h2R1 (y := y) (by omega)
        rw [show x / 2 ^ (i + 1) % y * 2 ^ 1 + 1 - y = x / 2 ^ i % y by omega] at p188
        rw [hnext.2, ← b3] at hgo
        have ec : decide ((if x / 2 ^ (i + 1) % y * 2 ^ 1 + 1 = y then (0 : Int) else if x / 2 ^ (i + 1) % y * 2 ^ 1 + 1 < y then -1 else 1) ≥ 0) = true := by
          apply decide_eq_true; split
          · omega
          · rw [if_neg (by omega)]; omega
        simp (disch := omega) only [wadd, wadd1, wadd64, wsubn, wsub1, wmul64, ilt_t, ilt_f, ile_t, ile_f, igt_t, igt_f, ige_t, ige_f, ipos_t, ipos_f, igt0_t, igt0_f, nnn, beq0_t, beq0_f, bne0_t, bne0_f, Int.toNat_natCast, Int.toNat_zero, cond_true, cond_false, Bool.and_self, Bool.true_and, Bool.and_true, Bool.false_and, Bool.and_false, Bool.not_true, Bool.not_false, Bool.or_self, Bool.true_or, Bool.or_true, Bool.false_or, Bool.or_false, eb, pre168 p168, fun168 p168, pre166 p166, fun166 p166, ec, pre188 p188, fun188 p188, e9, e10, Wd_len, hol, Wd_getD, wu_id, one_shl, orN2 b1 hone, b2, Wd_set, e2]
        exact hgo
      · rw [if_neg hc] at hnext
        have ec : decide ((if x / 2 ^ (i + 1) % y * 2 ^ 1 + 1 = y then (0 : Int) else if x / 2 ^ (i + 1) % y * 2 ^ 1 + 1 < y then -1 else 1) ≥ 0) = false := by
          apply decide_eq_false
          rw [if_neg (by omega), if_pos (by omega)]; omega
        rw [hnext.2, hO] at hgo
        have e5 : x / 2 ^ (i + 1) % y * 2 ^ 1 + 1 = x / 2 ^ i % y := by omega
        simp (disch := omega) only [wadd, wadd1, wadd64, wsubn, wsub1, wmul64, ilt_t, ilt_f, ile_t, ile_f, igt_t, igt_f, ige_t, ige_f, ipos_t, ipos_f, igt0_t, igt0_f, nnn, beq0_t, beq0_f, bne0_t, bne0_f, Int.toNat_natCast, Int.toNat_zero, cond_true, cond_false, Bool.and_self, Bool.true_and, Bool.and_true, Bool.false_and, Bool.and_false, Bool.not_true, Bool.not_false, Bool.or_self, Bool.true_or, Bool.or_true, Bool.false_or, Bool.or_false, eb, pre168 p168, fun168 p168, pre166 p166, fun166 p166, ec, e2]
        rw [e5]
        exact hgo
/-- quotient and remainder -/
theorem T182_eq {x y : Nat} (hx : x < (2 ^ 64) ^ 4000) (hy : 0 < y) (hy2 : y < (2 ^ 64) ^ 4000) : T182 (Dw x, Dw y, ()) = some (Dw (x / y), Dw (x % y), ()) := by
  show t182 S138.pre S138.F S163.pre S163.F S187.pre S187.F S181.pre S181.F S167.pre S167.F S168.pre S168.F S166.pre S166.F S188.pre S188.F S133.pre S133.F W182_8 (Dw x) (Dw y) = _
  unfold t182
  have hmon : (2 ^ 64) ^ 4000 * 2 < (2 ^ 64) ^ 5000 := by decide +kernel
  have hx5 : x < (2 ^ 64) ^ 5000 := by omega
  have p0 := T138_dw hx5
  have p1 := T138_dw (x := y) (by omega)
  have p2 := T133_dw hx5
  have p3 := T163_dw hx5
  have hlx := dg_len_le (B := 2 ^ 64) (by decide) _ _ hx
  have hgt := dg_len_gt (B := 2 ^ 64) (by decide) x
  have hb : blen x ≤ 64 * (dg (2 ^ 64) x).length := by
    rw [pow64] at hgt
    exact blen_bound hgt
  have hby : 1 ≤ blen y := blen_pos (by omega)
  have hbl := blen_lt x
  have hbl2 := blen_le (n := y) (by omega)
  simp only [pre138 p0, fun138 p0, pre138 p1, fun138 p1, cond_true]
  rcases Nat.lt_or_ge (blen x) (blen y) with h | h
  · have hxy : x < y := Nat.lt_of_lt_of_le hbl (Nat.le_trans (Nat.pow_le_pow_right (by decide) (by omega)) hbl2)
    simp (disch := omega) only [wadd, wadd1, wadd64, wsubn, wsub1, wmul64, ilt_t, ilt_f, ile_t, ile_f, igt_t, igt_f, ige_t, ige_f, ipos_t, ipos_f, igt0_t, igt0_f, nnn, beq0_t, beq0_f, bne0_t, bne0_f, Int.toNat_natCast, Int.toNat_zero, cond_true, cond_false, Bool.and_self, Bool.true_and, Bool.and_true, Bool.false_and, Bool.and_false, Bool.not_true, Bool.not_false, Bool.or_self, Bool.true_or, Bool.or_true, Bool.false_or, Bool.or_false, pre133 p2, fun133 p2]
    rw [Nat.div_eq_of_lt hxy, Nat.mod_eq_of_lt hxy, Dw_zero]
  · have hd : x / 2 ^ (blen x - blen y + 1) < y := by
      rw [Nat.div_lt_iff_lt_mul (Nat.two_pow_pos _)]
      have h1 : 2 ^ (blen y - 1) * 2 ^ (blen x - blen y + 1) = 2 ^ blen x := by rw [← Nat.pow_add]; congr 1; omega
      have h2 : 2 ^ (blen y - 1) * 2 ^ (blen x - blen y + 1) ≤ y * 2 ^ (blen x - blen y + 1) := Nat.mul_le_mul_right _ hbl2
      omega
    have p4 := T187_eq hx5 (blen x - blen y + 1) (by omega)
    have hw := W182_eq hx hy hy2 (blen x - blen y + 1) (by omega)
    rw [Nat.mod_eq_of_lt hd, Nat.div_eq_of_lt hd, Nat.zero_mul, pd_zero, show (((blen x - blen y + 1 : Nat) : Int) - 1) = ((blen x - blen y : Nat) : Int) by omega] at hw
    have hq : x / y < (2 ^ 64) ^ (dg (2 ^ 64) x).length := Nat.lt_of_le_of_lt (Nat.div_le_self _ _) hgt
    have p5 := T133_h (l := pd (2 ^ 64) (dg (2 ^ 64) x).length (x / y)) (v := x / y) ⟨pd_lt (by decide) _ _, by rw [pd_len]; omega⟩ (pd_nv (by decide) _ _ hq)
    have e3 : decide ((((dg (2 ^ 64) x).length : Nat) : Int) * 8 ≤ 140737488355328) = true := decide_eq_true (by omega)
    generalize pd (2 ^ 64) (dg (2 ^ 64) x).length (x / y) = out at *
    simp (disch := omega) only [wadd, wadd1, wadd64, wsubn, wsub1, wmul64, ilt_t, ilt_f, ile_t, ile_f, igt_t, igt_f, ige_t, ige_f, ipos_t, ipos_f, igt0_t, igt0_f, nnn, beq0_t, beq0_f, bne0_t, bne0_f, Int.toNat_natCast, Int.toNat_zero, cond_true, cond_false, Bool.and_self, Bool.true_and, Bool.and_true, Bool.false_and, Bool.and_false, Bool.not_true, Bool.not_false, Bool.or_self, Bool.true_or, Bool.or_true, Bool.false_or, Bool.or_false, pre163 p3, fun163 p3, e3, pre187 p4, fun187 p4, Wd_rep, hw]
    show (bif S133.pre (Wd out, ()) then some ((S133.F (Wd out, ())).1, Dw (x % y), ()) else none) = _
    rw [pre133 p5, fun133 p5]
    rfl
theorem T165_eq {x y : Nat} (hx : x < (2 ^ 64) ^ 4000) (hy : 0 < y) (hy2 : y < (2 ^ 64) ^ 4000) : T165 (Dw x, Dw y, ()) = some (Dw (x / y), Dw (x % y), ()) := by
  show t165 S182.pre S182.F (Dw x) (Dw y) = _
  unfold t165
  have p0 := T182_eq hx hy hy2
  simp only [pre182 p0, fun182 p0, cond_true]
end VL
namespace VL
open Go Vx
theorem b4000 {n k : Nat} (h : n < 2 ^ k) (hk : k ≤ 64 * 4000) : n < (2 ^ 64) ^ 4000 := by
  rw [pow64]
  exact Nat.lt_of_lt_of_le h (Nat.pow_le_pow_right (by decide) hk)
theorem b5000 {n k : Nat} (h : n < 2 ^ k) (hk : k ≤ 64 * 5000) : n < (2 ^ 64) ^ 5000 := by
  rw [pow64]
  exact Nat.lt_of_lt_of_le h (Nat.pow_le_pow_right (by decide) hk)
theorem shift_lt {n k d : Nat} (h : n < 2 ^ k) : n * 2 ^ d < 2 ^ (k + d) := by
  rw [Nat.pow_add]; exact Nat.mul_lt_mul_of_pos_right h (Nat.two_pow_pos d)
theorem Dw_len0 (n : Nat) : ((((Dw n).length : Nat) : Int) == 0) = decide (n = 0) := by
  by_cases h : n = 0
  · subst h; rw [Dw_zero]; rfl
  · rw [decide_eq_false h]; exact beq0_f _ (by have := Dw_len h; omega)
abbrev NumS (neg : Bool) (N : Nat) (E : Int) : Bool × List Int × List Int × Int × Unit := (neg, (Dw N, (Dw 1, (E, ()))))
theorem cls_left {r s : Nat} (hr : r ≠ 0) (hs : 1 ≤ s) : IntKind.wrap .i64 ((2 : Int) + (if r * 2 ^ 1 = 2 ^ s then 0 else if r * 2 ^ 1 < 2 ^ s then -1 else 1)) = ((clsR r s : Nat) : Int) := by
  have hp : 2 ^ s = 2 ^ (s - 1) * 2 := by rw [← Nat.pow_succ]; congr 1; omega
  unfold clsR
  rw [if_neg hr, hp]
  by_cases h1 : r < 2 ^ (s - 1)
  · rw [if_pos h1, if_neg (by omega), if_pos (by omega)]; rfl
  · rw [if_neg h1]
    by_cases h2 : r = 2 ^ (s - 1)
    · rw [if_pos h2, if_pos (by omega)]; rfl
    · rw [if_neg h2, if_neg (by omega), if_neg (by omega)]; rfl
/-- places -/
theorem T136_eq (neg : Bool) {N : Nat} (hN : N < 2 ^ 100) (E q : Int) (hE : -10000 ≤ E ∧ E ≤ 10000) (hq : -20000 ≤ q ∧ q ≤ 20000) :
    T136 (NumS neg N E, q, ()) = some (Dw (quoE N E q), (rstE N E q : Int), ()) := by
  show t136 S165.pre S165.F S164.pre S164.F S166.pre S166.F (NumS neg N E) q = _
  unfold t136
  dsimp only
  by_cases h : q ≤ E
  · obtain ⟨d, hd⟩ := Int.eq_ofNat_of_zero_le (show 0 ≤ E - q by omega)
    have e1 : IntKind.wrap .i64 (d : Int) = (d : Int) := wrapI (by omega)
    have hs := shift_lt (d := d) hN
    have p0 := T164_eq (b5000 hN (by decide)) d (by omega)
    have p1 := T165_eq (b4000 hs (by omega)) (y := 1) (by decide) (by decide +kernel)
    rw [decide_eq_true (show E ≥ q by omega), cond_true, hd]
    simp only [e1, pre164 p0, fun164 p0, pre165 p1, fun165 p1, cond_true, Dw_len0]
    rw [Nat.mod_one, Nat.div_one, decide_eq_true rfl, cond_true, quoE_lo h, rstE_lo h, hd]
    rfl
  · obtain ⟨d, hd⟩ := Int.eq_ofNat_of_zero_le (show 0 ≤ q - E by omega)
    have e1 : IntKind.wrap .i64 (d : Int) = (d : Int) := wrapI (by omega)
    have h2d : 2 ^ d < 2 ^ (d + 1) := Nat.pow_lt_pow_right (by decide) (by omega)
    have p0 := T164_eq (x := 1) (by decide +kernel) d (by omega)
    rw [Nat.one_mul] at p0
    have p1 := T165_eq (b4000 hN (by decide)) (y := 2 ^ d) (Nat.two_pow_pos d) (b4000 h2d (by omega))
    have hr := Nat.mod_lt N (Nat.two_pow_pos d)
    have p2 := T164_eq (x := N % 2 ^ d) (b5000 (Nat.lt_trans hr h2d) (by omega)) 1 (by omega)
    have p2 : T164 (Dw (N % 2 ^ d), (1 : Int), ()) = _ := p2
    have p3 := T166_eq (x := N % 2 ^ d * 2 ^ 1) (y := 2 ^ d) (b5000 (shift_lt (Nat.lt_trans hr h2d)) (by omega)) (b5000 h2d (by omega))
    rw [decide_eq_false (show ¬ E ≥ q by omega), cond_false, hd]
    simp only [e1, pre164 p0, fun164 p0, pre165 p1, fun165 p1, cond_true, Dw_len0]
    rw [quoE_hi (by omega), rstE_hi (by omega), hd, Int.toNat_natCast]
    by_cases h0 : N % 2 ^ d = 0
    · rw [decide_eq_true h0, cond_true, h0]; rfl
    · rw [decide_eq_false h0, cond_false]
      simp only [pre164 p2, fun164 p2, cond_true, pre166 p3, fun166 p3]
      rw [cls_left h0 (by omega)]
theorem T137_eq {m : Int} (hm : 0 ≤ m ∧ m ≤ 5) (neg : Bool) {u : Nat} (hu : u < (2 ^ 64) ^ 4000) (left : Nat) (hl : left < 4) :
    T137 (m, neg, Dw u, (left : Int), ()) = some (Dw (if left ≠ 0 ∧ furM m neg (decide (u % 2 = 1)) left = true then u + 1 else u), ()) := by
  show t137 S167.pre S167.F S168.pre S168.F m neg (Dw u) (left : Int) = _
  have hmon : (2 ^ 64) ^ 4000 < (2 ^ 64) ^ 5000 := by decide +kernel
  have p0 := T167_dw (x := u) (by omega) 0 (by omega)
  rw [Nat.pow_zero, Nat.div_one] at p0
  have p0 : T167 (Dw u, (0 : Int), ()) = _ := p0
  have p1 := T168_dw (x := u) (y := 1) (by omega) (by decide +kernel)
  rw [Dw_one] at p1
  have e1 : (((u % 2 : Nat) : Int) == 1) = decide (u % 2 = 1) := by rw [Bool.eq_iff_iff, decide_eq_true_eq, beq_iff_eq]; omega
  unfold t137
  simp only [pre167 p0, fun167 p0, pre168 p1, fun168 p1, cond_true, e1]
  generalize decide (u % 2 = 1) = odd
  have hl4 : left = 0 ∨ left = 1 ∨ left = 2 ∨ left = 3 := by omega
  rcases (show m = 0 ∨ m = 1 ∨ m = 2 ∨ m = 3 ∨ m = 4 ∨ m = 5 by omega) with rfl | rfl | rfl | rfl | rfl | rfl <;>
    rcases hl4 with rfl | rfl | rfl | rfl <;> cases odd <;> cases neg <;> rfl
theorem chosen_cut (m : Int) (neg : Bool) (N : Nat) (E q : Int) : (if rstE N E q ≠ 0 ∧ furM m neg (decide (quoE N E q % 2 = 1)) (rstE N E q) = true then quoE N E q + 1 else quoE N E q) = cutN m neg N E q false := rfl
theorem quo_ge {n : Nat} {e q : Int} {p : Nat} (h0 : n ≠ 0) (hp : 1 ≤ p) (h : q ≤ topE n e - p + 1) : 2 ^ (p - 1) ≤ quoE n e q := by
  have hb := blen_le h0
  have hb1 := blen_pos h0
  have ht : topE n e = e + (blen n : Int) - 1 := rfl
  by_cases hq : q ≤ e
  · rw [quoE_lo hq]
    obtain ⟨d, hd⟩ := Int.eq_ofNat_of_zero_le (show 0 ≤ e - q by omega)
    rw [hd, Int.toNat_natCast]
    have h1 : 2 ^ (blen n - 1) * 2 ^ d ≤ n * 2 ^ d := Nat.mul_le_mul_right _ hb
    rw [← Nat.pow_add] at h1
    exact Nat.le_trans (Nat.pow_le_pow_right (by decide) (by omega)) h1
  · rw [quoE_hi (by omega)]
    obtain ⟨d, hd⟩ := Int.eq_ofNat_of_zero_le (show 0 ≤ q - e by omega)
    rw [hd, Int.toNat_natCast, Nat.le_div_iff_mul_le (Nat.two_pow_pos d), ← Nat.pow_add]
    exact Nat.le_trans (Nat.pow_le_pow_right (by decide) (by omega)) hb
theorem cut_ge {m : Int} {neg : Bool} {n : Nat} {e q : Int} {p : Nat} (h0 : n ≠ 0) (hp : 1 ≤ p) (h : q ≤ topE n e - p + 1) : p ≤ blen (cutN m neg n e q false) := by
  have h1 := quo_ge h0 hp h
  have h2 : 2 ^ (p - 1) ≤ cutN m neg n e q false := by
    unfold cutN; split <;> omega
  have := blen_ge h2
  omega
/-- Top -/
theorem T135_eq (neg : Bool) {N : Nat} (h0 : N ≠ 0) (hN : N < 2 ^ 100) (E : Int) (hE : -9000 ≤ E ∧ E ≤ 9000) : T135 (NumS neg N E, ()) = some (topE N E, ()) := by
  show t135 S138.pre S138.F S136.pre S136.F (NumS neg N E) = _
  unfold t135
  have hb := blen_bound hN
  have p0 := T138_dw (b5000 hN (by decide))
  have p1 := T138_dw (x := 1) (by decide +kernel)
  have ht : topE N E = E + (blen N : Int) - 1 := rfl
  have p2 := T136_eq neg hN E (topE N E) (by omega) (by omega)
  have e1 : IntKind.wrap .i64 (IntKind.wrap .i64 ((blen N : Int) - ((blen 1 : Nat) : Int)) + E) = topE N E := by
    have : blen 1 = 1 := rfl
    rw [this, wrapI (n := (blen N : Int) - _) (by omega), wrapI (by omega), ht]; omega
  have hq := quo_ge (e := E) (q := topE N E) (p := 1) h0 (Nat.le_refl _) (by omega)
  dsimp only
  simp only [pre138 p0, fun138 p0, pre138 p1, fun138 p1, cond_true, e1, pre136 p2, fun136 p2, Dw_len0]
  rw [decide_eq_false (by omega), cond_false]
theorem T134_eq (neg : Bool) : T134 (neg, ()) = some ((if neg then 1 else 0 : Int), ()) := by
  cases neg <;> kernel_rfl
theorem T169_ok {f : Int} (h : Fm f) (neg : Bool) : T169 (f, (if neg then 1 else 0 : Int), ()) = some ((infB f neg : Int), ()) := by
  rcases Fm_cases h with rfl | rfl | rfl | rfl <;> cases neg <;> kernel_rfl
theorem T170_ok {f : Int} (h : Fm f) (neg : Bool) : T170 (f, (if neg then 1 else 0 : Int), ()) = some (((infB f neg - 1 : Nat) : Int), ()) := by
  rcases Fm_cases h with rfl | rfl | rfl | rfl <;> cases neg <;> kernel_rfl
theorem T132_ok {f : Int} (h : Fm f) (neg : Bool) : T132 (f, (if neg then 1 else 0 : Int), 0, 0, ()) = some ((sgnF f neg : Int), ()) := by
  rcases Fm_cases h with rfl | rfl | rfl | rfl <;> cases neg <;> kernel_rfl
theorem T139_eq {f : Int} (h : Fm f) (m : Int) (neg : Bool) : T139 (f, m, neg, ()) = some ((beyB f m neg : Int), ()) := by
  show t139 S169.pre S169.F S134.pre S134.F S170.pre S170.F f m neg = _
  have p0 := T134_eq neg
  have p1 := T169_ok h neg
  have p2 := T170_ok h neg
  unfold t139 beyB
  simp only [pre134 p0, fun134 p0, pre169 p1, fun169 p1, pre170 p2, fun170 p2, cond_true]
  show (bif upw m neg then _ else _) = _
  cases upw m neg <;> rfl
theorem or_sgn {f : Int} (hf : Fm f) (neg : Bool) {v : Nat} (hv : v < 2 ^ (fW f - 1)) : orI .u64 (sgnF f neg : Int) (v : Int) = ((v + sgnF f neg : Nat) : Int) := by
  have hW := fW_le hf
  have h1 : 2 ^ (fW f - 1) ≤ 2 ^ 63 := Nat.pow_le_pow_right (by decide) (by omega)
  have hs : sgnF f neg < 2 ^ 64 := by unfold sgnF; split <;> omega
  rw [orN2 hs (by omega)]
  congr 1
  unfold sgnF
  cases neg
  · simp
  · rw [if_pos rfl]
    have := Nat.two_pow_add_eq_or_of_lt hv 1
    rw [Nat.mul_one] at this
    omega
/-- Round -/
theorem T88_eq {f m : Int} (hf : Fm f) (hm : 0 ≤ m ∧ m ≤ 5) (neg : Bool) {N : Nat} (h0 : N ≠ 0) (hN : N < 2 ^ 100) (E : Int) (hE : -8000 ≤ E ∧ E ≤ 8000) :
    T88 (f, m, NumS neg N E, ()) = some (((rndN f m neg N E false).1 : Int), ((rndN f m neg N E false).2 : Int), ()) := by
  show t88 S133.pre S133.F S114.pre S114.F S131.pre S131.F S135.pre S135.F S139.pre S139.F S136.pre S136.F S137.pre S137.F S138.pre S138.F S134.pre S134.F S132.pre S132.F f m (NumS neg N E) = _
  have hP := fP_ge hf
  have hPl := fP_le hf
  have hPW := fP_lt hf
  have hW := fW_le hf
  have hX := fX_le hf
  have hX15 := fX_ge hf
  have hbl := blen_bound hN
  have hbl1 := blen_pos h0
  have htop : topE N E = E + (blen N : Int) - 1 := rfl
  have pT := T133_dw (b5000 hN (by decide))
  have pP := T131_ok hf
  have pTop := T135_eq neg h0 hN E (by omega)
  have pY := T139_eq hf m neg
  have pS := T134_eq neg
  have pM := T132_ok hf neg
  have r1 : (rowOf f).2.1 = (fP f : Int) := rfl
  have r2 : (rowOf f).2.2.1 = 1 - (fX f : Int) := rfl
  have r3 : (rowOf f).2.2.2.1 = (fX f : Int) := rfl
  have e5 : IntKind.wrap .i64 (IntKind.wrap .i64 (topE N E - (fP f : Int)) + 1) = topE N E - (fP f : Int) + 1 := by
    rw [wrapI (n := _ - (fP f : Int)) (by omega), wrapI (by omega)]
  have e4 : IntKind.wrap .i64 (IntKind.wrap .i64 ((1 - (fX f : Int)) - (fP f : Int)) + 1) = 1 - (fX f : Int) - (fP f : Int) + 1 := by
    rw [wrapI (n := _ - (fP f : Int)) (by omega), wrapI (by omega)]
  have e6 : IntKind.wrap .i64 ((fX f : Int) + 1) = (fX f : Int) + 1 := wrapI (by omega)
  have e10 : IntKind.wrap .u64 (IntKind.wrap .i64 ((fP f : Int) - 1)) = ((fP f - 1 : Nat) : Int) := by
    rw [wsub1 _ (by omega), wu_id _ (by omega)]
  have hlow : topE N E - (fP f : Int) + 1 ≤ lowE f (topE N E) ∧ lowE f (topE N E) = (if topE N E - (fP f : Int) + 1 < 1 - (fX f : Int) - (fP f : Int) + 1 then 1 - (fX f : Int) - (fP f : Int) + 1 else topE N E - (fP f : Int) + 1) := by
    unfold lowE
    refine ⟨?_, ?_⟩
    · split <;> omega
    · split
      · rw [if_pos (by omega)]
      · rw [if_neg (by omega)]
  -- what the places at q give
  have hcut : ∀ q : Int, topE N E - (fP f : Int) + 1 ≤ q → cutN m neg N E q false ≤ 2 ^ 53 := fun q h =>
    Nat.le_trans (cut_lt_big (m := m) (neg := neg) hf h) (Nat.pow_le_pow_right (by decide) hPl)
  have hquo : ∀ q : Int, topE N E - (fP f : Int) + 1 ≤ q → quoE N E q < 2 ^ 53 := fun q h =>
    Nat.lt_of_lt_of_le (quo_lt h) (Nat.pow_le_pow_right (by decide) hPl)
  have p136 : ∀ q : Int, -20000 ≤ q → q ≤ 20000 → _ := fun q h1 h2 => T136_eq neg hN E q (by omega) ⟨h1, h2⟩
  have p137 : ∀ q : Int, topE N E - (fP f : Int) + 1 ≤ q → T137 (m, neg, Dw (quoE N E q), (rstE N E q : Int), ()) = some (Dw (cutN m neg N E q false), ()) := fun q h => by
    have := T137_eq hm neg (b4000 (hquo q h) (by decide)) (rstE N E q) (rest_lt N E q)
    rw [chosen_cut] at this
    exact this
  have p138 : ∀ q : Int, topE N E - (fP f : Int) + 1 ≤ q → T138 (Dw (cutN m neg N E q false), ()) = some ((blen (cutN m neg N E q false) : Int), ()) := fun q h =>
    T138_dw (b5000 (Nat.lt_of_le_of_lt (hcut q h) (Nat.pow_lt_pow_right (by decide) (by decide))) (by decide : 54 ≤ 64 * 5000))
  have hU2 := hcut _ (Int.le_refl (topE N E - (fP f : Int) + 1))
  have hblen2 := blen_bound (show cutN m neg N E (topE N E - (fP f : Int) + 1) false < 2 ^ 60 by omega)
  have hge2 : fP f ≤ blen (cutN m neg N E (topE N E - (fP f : Int) + 1) false) := cut_ge h0 (by omega) (Int.le_refl _)
  have hqb : -20000 ≤ lowE f (topE N E) ∧ lowE f (topE N E) ≤ 20000 ∧ 1 - (fX f : Int) - (fP f : Int) + 1 ≤ lowE f (topE N E) := by
    rw [hlow.2]; split <;> omega
  have hU := hcut _ hlow.1
  have hblen := blen_bound (show cutN m neg N E (lowE f (topE N E)) false < 2 ^ 60 by omega)
  have q136 := p136 _ hqb.1 hqb.2.1
  have q137 := p137 _ hlow.1
  have q138 := p138 _ hlow.1
  have q136' := p136 (topE N E - (fP f : Int) + 1) (by omega) (by omega)
  have q137' := p137 _ (Int.le_refl (topE N E - (fP f : Int) + 1))
  have q138' := p138 _ (Int.le_refl (topE N E - (fP f : Int) + 1))
  have hU0 : cutN m neg N E (lowE f (topE N E)) false = 0 → lowE f (topE N E) = 1 - (fX f : Int) - (fP f : Int) + 1 := fun h => by
    by_cases hq : lowE f (topE N E) = 1 - (fX f : Int) - (fP f : Int) + 1
    · exact hq
    · exfalso
      have h2 : lowE f (topE N E) = topE N E - (fP f : Int) + 1 := by
        have h3 := hlow.2
        split at h3 <;> omega
      rw [h2] at h
      rw [h] at hge2
      have : blen 0 = 0 := rfl
      omega
  have hov1 : topE N E > fX f → lowE f (topE N E) + (blen (cutN m neg N E (lowE f (topE N E)) false) : Int) > (fX f : Int) + 1 := fun h => by
    have h2 : lowE f (topE N E) = topE N E - (fP f : Int) + 1 := by rw [hlow.2, if_neg (by omega)]
    rw [h2]; omega
  have hRr : cutR N E (lowE f (topE N E)) false = rstE N E (lowE f (topE N E)) := rfl
  have hrnd : rndN f m neg N E false = (if lowE f (topE N E) + (blen (cutN m neg N E (lowE f (topE N E)) false) : Int) > (fX f : Int) + 1 then (beyB f m neg, 20)
      else ((lowE f (topE N E) - (1 - (fX f : Int) - fP f + 1)).toNat * 2 ^ (fP f - 1) + cutN m neg N E (lowE f (topE N E)) false + sgnF f neg,
        if rstE N E (lowE f (topE N E)) = 0 then 0 else if (blen (cutN m neg N E (topE N E - (fP f : Int) + 1) false) : Int) + topE N E - (fP f : Int) + 1 ≤ 1 - (fX f : Int) then 24 else 16)) := by
    unfold rndN
    dsimp only
    rw [hRr]
    by_cases h1 : topE N E > fX f
    · rw [if_pos h1, if_pos (hov1 h1)]
    · rw [if_neg h1]
      by_cases h2 : lowE f (topE N E) + (blen (cutN m neg N E (lowE f (topE N E)) false) : Int) > (fX f : Int) + 1
      · rw [if_pos h2, if_pos (by omega)]
      · rw [if_neg h2, if_neg (by omega)]
        congr 1
        by_cases h3 : rstE N E (lowE f (topE N E)) = 0
        · rw [if_pos h3, if_pos h3]
        · rw [if_neg h3, if_neg h3]
          by_cases h4 : (blen (cutN m neg N E (topE N E - (fP f : Int) + 1) false) : Int) + topE N E - (fP f : Int) + 1 ≤ 1 - (fX f : Int)
          · rw [if_pos h4, if_pos (show isTiny f m neg N E false from ⟨by omega, by omega⟩)]
          · rw [if_neg h4, if_neg (fun h : isTiny f m neg N E false => by have := h.2; omega)]
  rw [hrnd]
  obtain ⟨k, hk⟩ := Int.eq_ofNat_of_zero_le (show 0 ≤ lowE f (topE N E) - (1 - (fX f : Int) - (fP f : Int) + 1) by omega)
  have hR4 := rest_lt N E (lowE f (topE N E))
  have hle0 := hlow.2
  have hhalf := half_eq hf
  have hpp := Nat.two_pow_pos (fP f - 1)
  have hW1 : 2 ^ (fW f - 1) ≤ 2 ^ 63 := Nat.pow_le_pow_right (by decide) (by omega)
  have hcl := cut_lt_big (m := m) (neg := neg) hf hlow.1
  unfold t88
  dsimp only
  simp only [pre133 pT, fun133 pT, pre134 pS, fun134 pS, Dw_len0, decide_eq_false h0, cond_false, pre131 pP, fun131 pP, cond_true, pre135 pTop, fun135 pTop, r1, r2, r3, e4, e5, e6, e10]
  clear hcut hquo p136 p137 p138 hov1 hrnd hRr
  generalize hq : lowE f (topE N E) = q at *
  generalize hUd : cutN m neg N E q false = U at *
  generalize hU2d : cutN m neg N E (topE N E - (fP f : Int) + 1) false = U2 at *
  generalize hRd : rstE N E q = R at *
  have e7 : IntKind.wrap .i64 ((blen U : Int) + q) = (blen U : Int) + q := wrapI (by omega)
  have e8 : IntKind.wrap .i64 (IntKind.wrap .i64 (IntKind.wrap .i64 ((blen U2 : Int) + topE N E) - (fP f : Int)) + 1) = (blen U2 : Int) + topE N E - (fP f : Int) + 1 := by
    rw [wrapI (n := (blen U2 : Int) + _) (by omega), wrapI (n := _ - (fP f : Int)) (by omega), wrapI (by omega)]
  have e9 : IntKind.wrap .u64 (IntKind.wrap .i64 (k : Int)) = (k : Int) := by
    rw [wrapI (by omega), wu_id _ (by omega)]
  have hDg : (Dw U).getD (Int.toNat 0) 0 = (U : Int) := by rw [Int.toNat_zero, Dw_get, Nat.mod_eq_of_lt (by omega)]
  by_cases hov : q + (blen U : Int) > (fX f : Int) + 1
  · have hov' : decide ((blen U : Int) + q > (fX f : Int) + 1) = true := decide_eq_true (by omega)
    rw [if_pos hov]
    by_cases hc : topE N E - (fP f : Int) + 1 < 1 - (fX f : Int) - (fP f : Int) + 1
    · rw [if_pos hc] at hle0
      rw [← hle0] at hc ⊢
      simp only [decide_eq_true hc, cond_true, pre136 q136, fun136 q136, pre137 q137, fun137 q137, pre138 q138, fun138 q138, e7, hov', pre139 pY, fun139 pY]
      rfl
    · rw [if_neg hc] at hle0
      rw [← hle0] at hc ⊢
      simp only [decide_eq_false hc, cond_false, cond_true, pre136 q136, fun136 q136, pre137 q137, fun137 q137, pre138 q138, fun138 q138, e7, hov', pre139 pY, fun139 pY]
      rfl
  · have hov' : decide ((blen U : Int) + q > (fX f : Int) + 1) = false := decide_eq_false (by omega)
    rw [if_neg hov]
    have hk2 : k ≤ 2 * fX f - 1 ∨ U = 0 := by
      rcases Nat.eq_zero_or_pos U with h | h
      · exact .inr h
      · have := blen_pos (n := U) (by omega)
        left
        by_cases hc : topE N E - (fP f : Int) + 1 < 1 - (fX f : Int) - (fP f : Int) + 1
        · rw [if_pos hc] at hle0; omega
        · rw [if_neg hc] at hle0
          rw [← hle0, hUd] at hU2d
          subst hU2d
          omega
    have hk3 : k ≤ 2 * fX f - 1 := by
      rcases hk2 with h | h
      · exact h
      · have := hU0 h; omega
    have hkp : k * 2 ^ (fP f - 1) ≤ (2 * fX f - 1) * 2 ^ (fP f - 1) := Nat.mul_le_mul_right _ hk3
    have e11 : shlI .u64 (k : Int) ((fP f - 1 : Nat) : Int) = ((k * 2 ^ (fP f - 1) : Nat) : Int) := by
      rw [shlN _ _ (by omega), Nat.mod_eq_of_lt (by omega)]
    have e12 : IntKind.wrap .u64 (((k * 2 ^ (fP f - 1) : Nat) : Int) + (U : Int)) = ((k * 2 ^ (fP f - 1) + U : Nat) : Int) := wu_add _ _ (by omega)
    have e12' : U = 0 → IntKind.wrap .u64 (((k * 2 ^ (fP f - 1) : Nat) : Int) + 0) = ((k * 2 ^ (fP f - 1) + U : Nat) : Int) := fun h => by rw [h] at e12 ⊢; exact e12
    have e13 := or_sgn hf neg (v := k * 2 ^ (fP f - 1) + U) (by omega)
    have hgt0 : decide ((R : Int) > 0) = decide (R ≠ 0) := by rw [Bool.eq_iff_iff, decide_eq_true_eq, decide_eq_true_eq]; omega
    have hfl : ((if R = 0 then 0 else if (blen U2 : Int) + topE N E - (fP f : Int) + 1 ≤ 1 - (fX f : Int) then 24 else 16 : Nat) : Int) =
        (bif decide (R ≠ 0) then (bif decide ((blen U2 : Int) + topE N E - (fP f : Int) + 1 ≤ 1 - (fX f : Int)) then (24 : Int) else 16) else 0) := by
      by_cases h1 : R = 0
      · rw [if_pos h1, decide_eq_false (by omega)]; rfl
      · rw [if_neg h1, decide_eq_true h1]
        by_cases h2 : (blen U2 : Int) + topE N E - (fP f : Int) + 1 ≤ 1 - (fX f : Int)
        · rw [if_pos h2, decide_eq_true h2]; rfl
        · rw [if_neg h2, decide_eq_false h2]; rfl
    rw [hfl, hk, Int.toNat_natCast]
    have eL : U ≠ 0 → decide ((((Dw U).length : Nat) : Int) > 0) = true := Dw_len_gt
    have eL2 : U ≠ 0 → decide ((0 : Int) < (((Dw U).length : Nat) : Int)) = true := Dw_len_pos
    have eL0 : U = 0 → decide ((((Dw U).length : Nat) : Int) > 0) = false := fun h => by rw [h, Dw_zero]; rfl
    by_cases hc : topE N E - (fP f : Int) + 1 < 1 - (fX f : Int) - (fP f : Int) + 1
    · rw [if_pos hc] at hle0
      rw [← hle0] at hk ⊢
      simp only [show decide (topE N E - (fP f : Int) + 1 < q) = true from decide_eq_true (by omega), cond_true, pre136 q136, fun136 q136, pre137 q137, fun137 q137, pre138 q138, fun138 q138, pre136 q136', fun136 q136', pre137 q137', fun137 q137', pre138 q138', fun138 q138', e7, hov', cond_false, hgt0, e8, hk, e9, e11, pre132 pM, fun132 pM, hDg]
      by_cases hz : U = 0
      · simp only [eL0 hz, e12' hz, e13, cond_false]
        cases decide (R ≠ 0) <;> cases decide ((blen U2 : Int) + topE N E - (fP f : Int) + 1 ≤ 1 - (fX f : Int)) <;> rfl
      · simp only [eL hz, eL2 hz, e12, e13, cond_true]
        cases decide (R ≠ 0) <;> cases decide ((blen U2 : Int) + topE N E - (fP f : Int) + 1 ≤ 1 - (fX f : Int)) <;> rfl
    · rw [if_neg hc] at hle0
      rw [decide_eq_false hc, cond_false, ← hle0]
      simp only [pre136 q136, fun136 q136, pre137 q137, fun137 q137, pre138 q138, fun138 q138, e7, hov', cond_false, cond_true, hgt0, hk, e9, e11, pre132 pM, fun132 pM, hDg]
      rw [← hle0, hUd] at hU2d
      subst hU2d
      simp only [e8]
      by_cases hz : U = 0
      · simp only [eL0 hz, e12' hz, e13, cond_false]
        cases decide (R ≠ 0) <;> cases decide ((blen U : Int) + topE N E - (fP f : Int) + 1 ≤ 1 - (fX f : Int)) <;> rfl
      · simp only [eL hz, eL2 hz, e12, e13, cond_true]
        cases decide (R ≠ 0) <;> cases decide ((blen U : Int) + topE N E - (fP f : Int) + 1 ≤ 1 - (fX f : Int)) <;> rfl
end VL
namespace VL
open Go Vx
theorem T85_eq {f : Int} (hf : Fm f) {a : Nat} (ha : a < 2 ^ 64) : T85 (f, (a : Int), ()) = some (isInf f a, ()) := by
  show t85 S113.pre S113.F f a = _
  unfold t85
  have p0 := T113_eq hf ha
  simp only [pre113 p0, fun113 p0, cond_true]
  unfold isInf
  rw [nbeq, nbeq0]
theorem T86_eq {f : Int} (hf : Fm f) {a : Nat} (ha : a < 2 ^ 64) : T86 (f, (a : Int), ()) = some (eF f a == 0 && mF f a == 0, ()) := by
  show t86 S113.pre S113.F f a = _
  unfold t86
  have p0 := T113_eq hf ha
  simp only [pre113 p0, fun113 p0, cond_true]
  rw [nbeq0, nbeq0]
theorem T87_eq {f : Int} (hf : Fm f) {a : Nat} (ha : a < 2 ^ 64) : T87 (f, (a : Int), ()) = some ((mant f a : Int), xpn f a, ()) := by
  show t87 S131.pre S131.F S113.pre S113.F f a = _
  unfold t87
  have p0 := T113_eq hf ha
  have p1 := T131_ok hf
  have h1 := fP_ge hf
  have h2 := fX_le hf
  have h3 := fP_le hf
  have h4 := fX_ge hf
  have h5 := eF_lt hf a
  have hm := mF_lt f a
  have hX := fX_eq hf
  have hpp : 2 ^ (fP f - 1) ≤ 2 ^ 52 := Nat.pow_le_pow_right (by decide) (by omega)
  have hE : eF f a ≤ 4000 := by omega
  simp only [pre113 p0, fun113 p0, pre131 p1, fun131 p1, cond_true]
  have r1 : (rowOf f).2.1 = (fP f : Int) := rfl
  have r2 : (rowOf f).2.2.1 = 1 - (fX f : Int) := rfl
  rw [r1, r2, nbeq0]
  unfold mant xpn
  by_cases h0 : eF f a = 0
  · rw [beq_iff_eq.2 h0, cond_true, if_pos h0, if_pos h0, wrapI (n := 1 - (fX f : Int) - _) (by omega), wrapI (by omega), Int.add_zero]
  · have hb : (eF f a == 0) = false := by simpa using h0
    have e10 : IntKind.wrap .u64 (IntKind.wrap .i64 ((fP f : Int) - 1)) = ((fP f - 1 : Nat) : Int) := by
      rw [wsub1 _ (by omega), wu_id _ (by omega)]
    have e11 := one_shl (fP f - 1) (by omega)
    have e12 : IntKind.wrap .u64 (((2 ^ (fP f - 1) : Nat) : Int) + (mF f a : Int)) = ((2 ^ (fP f - 1) + mF f a : Nat) : Int) := wu_add _ _ (by omega)
    rw [hb, cond_false, if_neg h0, if_neg h0, e10, e11, e12]
    rw [wrapI (n := (eF f a : Int)) (by omega), wrapI (n := (eF f a : Int) - 1) (by omega), wrapI (n := (eF f a : Int) - 1 + _) (by omega), wrapI (n := (eF f a : Int) - 1 + (1 - (fX f : Int)) - _) (by omega), wrapI (by omega)]
    refine congrArg some (Prod.ext ?_ (Prod.ext ?_ rfl))
    · exact congrArg Int.ofNat (Nat.add_comm _ _)
    · show @Eq Int _ _
      dsimp only
      omega
end VL
namespace VL
open Go Vx
theorem s32 (x : Nat) : shrI .u64 (x : Int) 32 = ((x / 2 ^ 32 : Nat) : Int) := by
  have h := shrI_u64 (a := (x : Int)) 32 (by decide)
  rw [show ((32 : Nat) : Int) = 32 from rfl] at h
  rw [h]; norm_cast
/-- is it a zero -/
def zro (f : Int) (a : Nat) : Bool := eF f a == 0 && mF f a == 0
theorem zro_mant {f : Int} {a : Nat} (h : zro f a = false) : mant f a ≠ 0 := by
  unfold zro at h
  unfold mant
  by_cases hz : eF f a = 0
  · rw [if_pos hz]
    intro hm
    rw [hz, hm] at h
    cases h
  · rw [if_neg hz]
    have := Nat.two_pow_pos (fP f - 1)
    omega
end VL
namespace VL
open Go Vx
/-- the four kinds of patterns -/
theorem kinds3 (f : Int) (a : Nat) : nan f a = true ∨ (nan f a = false ∧ isInf f a = true ∧ eF f a = fullF f) ∨ (nan f a = false ∧ isInf f a = false ∧ eF f a ≠ fullF f) := by
  by_cases h : eF f a = fullF f
  · obtain ⟨v1, _, v3⟩ := full_vals h
    rw [v1, v3]
    cases mF f a == 0
    · exact .inl rfl
    · exact .inr (.inl ⟨rfl, rfl, h⟩)
  · obtain ⟨v1, _, v3⟩ := part_vals h
    exact .inr (.inr ⟨v1, v3, h⟩)
/-- the opposite, as the document writes it -/
theorem T370_eq {f : Int} {a : Nat} (h : chk f a = 0) : T370 (f, (a : Int), ()) = some ((negF f a : Int), ()) := by
  obtain ⟨hf, h0⟩ := chk_zero h
  show t370 S131.pre S131.F f a = _
  unfold t370
  have h2 := fP_lt hf
  have h3 := fW_le hf
  have p2 := T131_ok hf
  have e1 : IntKind.wrap .i64 ((rowOf f).1 - 1) = ((fW f - 1 : Nat) : Int) := wsub (fW f) 1 (by omega) (by omega)
  have e5 : IntKind.wrap .u64 ((fW f - 1 : Nat) : Int) = ((fW f - 1 : Nat) : Int) := wrapU (by omega)
  simp only [pre131 p2, fun131 p2, cond_true, e1, e5]
  rw [shlI_one (by omega), xorI_bit (by omega) (by rw [Nat.sub_add_cancel (by omega)]; exact h0)]
  have e : (if a < 2 ^ (fW f - 1) then a + 2 ^ (fW f - 1) else a - 2 ^ (fW f - 1)) = negF f a := by
    have hp := pat_mk h
    have hl := abs_lt' (f := f) a
    unfold negF
    unfold mkF at hp ⊢
    cases hs : sF f a <;> rw [hs] at hp <;> simp only [cond_true, cond_false, Bool.not_true, Bool.not_false] at hp ⊢
    · rw [if_pos (by omega)]; omega
    · rw [if_neg (by omega)]; omega
  rw [e]
theorem T367_eq {f : Int} (hf : Fm f) : T367 (f, 0, ()) = some (1, ()) := by
  show t367 S132.pre S132.F f 0 = _
  unfold t367
  have p : T132 (f, (0 : Int), 0, 1, ()) = some (1, ()) := by
    rcases Fm_cases hf with rfl | rfl | rfl | rfl <;> kernel_rfl
  simp only [pre132 p, fun132 p, cond_true]
theorem T368_eq {f : Int} {a : Nat} (h : chk f a = 0) (hn : nan f a = false) : T368 (f, (a : Int), ()) = some ((nextF f a 1 : Int), ()) := by
  obtain ⟨hf, h0⟩ := chk_zero h
  have ha := pat_lt h
  show t368 S86.pre S86.F S367.pre S367.F S59.pre S59.F S85.pre S85.F f a = _
  unfold t368
  have p0 := T86_eq hf ha
  have p1 := T367_eq hf
  have p2 := T59_eq hf ha
  have p3 := T85_eq hf ha
  have hz : (eF f a == 0 && mF f a == 0) = decide (absF f a = 0) := by
    rw [Bool.eq_iff_iff, Bool.and_eq_true, beq_iff_eq, beq_iff_eq, decide_eq_true_eq]
    exact (zero_iff hf a).symm
  have hsg : ((sgn f a : Int) == 1) = sF f a := by
    rw [← sgn_eq h, Bool.eq_iff_iff, beq_iff_eq, beq_iff_eq]; omega
  have hp := pat_mk h
  have hl := abs_lt' (f := f) a
  have hpos : 0 < infF f := Nat.mul_pos (Nat.two_pow_pos _) (full_pos hf)
  have hroom := inf_room hf
  have hinf := (inf_iff hf a)
  have hle := num_le hf hn
  have h64 : 2 ^ (fW f - 1) ≤ 2 ^ 63 := Nat.pow_le_pow_right (by decide) (by have := fW_le hf; omega)
  simp only [pre86 p0, fun86 p0, pre367 p1, fun367 p1, pre59 p2, fun59 p2, pre85 p3, fun85 p3, cond_true, hz, hsg]
  have hcls : (cls f a == 9) = (isInf f a && !sF f a) := by
    by_cases hi : absF f a = infF f
    · have hii : isInf f a = true := by
        have := hinf.1 hi
        unfold isInf; simpa using this
      rw [hii, cls_inf hf hi]
      cases sF f a <;> rfl
    · have hii : isInf f a = false := by
        cases hc : isInf f a
        · rfl
        · exact absurd (hinf.2 (by unfold isInf at hc; simpa using hc)) hi
      rw [hii, Bool.false_and]
      cases hc : cls f a == 9
      · rfl
      · exact absurd (cls_inf' hf (.inl rfl) (by simpa using hc)) hi
  unfold nextF
  rw [hcls, show decide ((1 : Int) > 0) = true from rfl, show decide ((1 : Int) < 0) = false from rfl, Bool.and_false, Bool.or_false, Bool.and_true]
  by_cases h1 : absF f a = 0
  · have hii : isInf f a = false := by
      cases hc : isInf f a
      · rfl
      · have := hinf.2 (by unfold isInf at hc; simpa using hc)
        omega
    have hpl : place f a = 0 := by unfold place; rw [h1]; cases sF f a <;> rfl
    rw [decide_eq_true h1, hii, Bool.false_and, hpl]
    rfl
  · rw [decide_eq_false h1, cond_false]
    cases hs : sF f a
    · rw [cond_false, Bool.not_false, Bool.and_true]
      have hpl : place f a = (absF f a : Int) := by unfold place; rw [hs]; rfl
      have hav : a = absF f a := by rw [hs] at hp; exact hp
      cases isInf f a
      · simp only [cond_false]
        have e0 : IntKind.wrap .u64 ((a : Int) + 1) = (((absF f a : Int) + 1).toNat : Int) := by rw [wrapU (by omega)]; omega
        rw [hpl, if_pos (by omega), e0]
      · rfl
    · rw [cond_true, Bool.not_true, Bool.and_false, cond_false]
      have hpl : place f a = -(absF f a : Int) := by unfold place; rw [hs]; rfl
      have hav : a = absF f a + 2 ^ (fW f - 1) := by rw [hs] at hp; exact hp
      rw [hpl, if_neg (by omega)]
      have e1 : (-(-(absF f a : Int) + 1)).toNat = absF f a - 1 := by omega
      rw [e1]
      have hm : negF f (absF f a - 1) = mkF f true (absF f a - 1) := by
        have h2 := mk_abs (f := f) false (n := absF f a - 1) (by omega)
        have h3 := mk_sgn (f := f) false (n := absF f a - 1) (by omega)
        have h4 : mkF f false (absF f a - 1) = absF f a - 1 := rfl
        rw [h4] at h2 h3
        unfold negF
        rw [h2, h3]; rfl
      rw [hm]
      have e0 : IntKind.wrap .u64 ((a : Int) - 1) = ((mkF f true (absF f a - 1) : Nat) : Int) := by
        unfold mkF
        rw [cond_true, wrapU (by omega)]; omega
      rw [e0]
theorem nans_one {f : Int} (hf : Fm f) {a : Nat} (ha : a < 2 ^ 64) : T56 (f, ((a : Int) :: []), ()) = some (nan f a, (bif snan f a then 1 else 0), ()) := by
  have p1 := T56_eq hf [a] (fun b hb => by have : b = a := by simpa using hb
                                           omega) (show (1 : Nat) < 1000000 by decide)
  rw [show nans f [a] = (nan f a, (bif snan f a then 1 else 0), ()) by unfold nans; simp] at p1
  exact p1
theorem T369_eq {f : Int} {a : Nat} (ha : a < 2 ^ 64) : T369 (f, (a : Int), ()) = some (stepF f a 1) := by
  show t369 S108.pre S108.F S56.pre S56.F S84.pre S84.F S368.pre S368.F f a = _
  unfold t369 stepF
  have p0 := T108_eq f a ha
  by_cases h : chk f a ≠ 0
  · have : (chk f a != 0) = true := by simpa using h
    simp only [pre108 p0, fun108 p0, cond_true, this, if_pos h]
  have h : chk f a = 0 := Classical.not_not.1 h
  have hf := (chk_zero h).1
  have p1 := nans_one hf ha
  have p2 := T84_ok hf
  rw [if_neg (show ¬ chk f a ≠ 0 from fun h' => h' h)]
  rw [h] at p0
  simp only [pre108 p0, fun108 p0, cond_true, bne_self_eq_false, cond_false, pre56 p1, fun56 p1, pre84 p2, fun84 p2]
  unfold stepP
  cases hn : nan f a
  · have p3 := T368_eq h hn
    rw [snan_nan hn]
    simp only [cond_false, pre368 p3, fun368 p3, cond_true]
  · rfl
theorem T371_eq {f : Int} {a : Nat} (ha : a < 2 ^ 64) : T371 (f, (a : Int), ()) = some (stepF f a (-1)) := by
  show t371 S108.pre S108.F S56.pre S56.F S84.pre S84.F S368.pre S368.F S370.pre S370.F f a = _
  unfold t371 stepF
  have p0 := T108_eq f a ha
  by_cases h : chk f a ≠ 0
  · have : (chk f a != 0) = true := by simpa using h
    simp only [pre108 p0, fun108 p0, cond_true, this, if_pos h]
  have h : chk f a = 0 := Classical.not_not.1 h
  have hf := (chk_zero h).1
  have p1 := nans_one hf ha
  have p2 := T84_ok hf
  rw [if_neg (show ¬ chk f a ≠ 0 from fun h' => h' h)]
  rw [h] at p0
  simp only [pre108 p0, fun108 p0, cond_true, bne_self_eq_false, cond_false, pre56 p1, fun56 p1, pre84 p2, fun84 p2]
  unfold stepP
  cases hn : nan f a
  · have hna : nan f (negF f a) = false := (nan_congr hf (neg_abs a)).trans hn
    have hx := neg_chk hf a
    have q1 := T370_eq h
    have q2 := T368_eq hx hna
    have q3 := T370_eq (next_chk hx hna (.inl rfl))
    have e : negF f (nextF f (negF f a) 1) = nextF f a (-1) := by
      rw [← next_neg h hn]
      exact neg_neg (next_chk h hn (.inr rfl))
    rw [e] at q3
    rw [snan_nan hn]
    simp only [cond_false, pre370 q1, fun370 q1, pre368 q2, fun368 q2, pre370 q3, fun370 q3, cond_true]
  · rfl
/-- Ulp -/
noncomputable def ulpP (f : Int) (a : Nat) : Nat := bif nan f a then nanF f else bif isInf f a then infB f false else mkF f false (magX f (2 ^ (eF f a - 1)))
noncomputable def ulpF (f : Int) (a : Nat) : Int × Int × Int × Unit := if chk f a ≠ 0 then (0, 0, chk f a, ()) else ((ulpP f a : Int), (bif snan f a then 1 else 0), 0, ())
theorem ulp_rnd {f : Int} {a : Nat} (h : chk f a = 0) (fa : eF f a ≠ fullF f) : rndN f 0 false 1 (xpn f a) false = (mkF f false (magX f (2 ^ (eF f a - 1))), 0) := by
  obtain ⟨hf, h0⟩ := chk_zero h
  have hX := fX_ge hf
  have hP := fP_ge hf
  have hE := e_fin hf fa
  have hk : eF f a - 1 ≤ 2 * fX f - 1 := by omega
  have hex := exact_of (f := f) (n := 2 ^ (eF f a - 1)) (N := 1) (k := eF f a - 1) (by rw [Nat.one_mul]) (Nat.lt_of_lt_of_le (show 1 < 2 ^ 1 by decide) (Nat.pow_le_pow_right (by decide) (by omega)))
  have hlt := ulp_lt hf hk
  rw [rnd_qm hf 0 false (N := 1) (by decide) (xpn_ge f a), Nat.one_mul, uE_eq, rnd_exact hf 0 false (Nat.ne_of_gt (Nat.two_pow_pos _)) hex hlt]
theorem T45_eq {f : Int} {a : Nat} (ha : a < 2 ^ 64) : T45 (f, (a : Int), ()) = some (ulpF f a) := by
  show t45 S82.pre S82.F S53.pre S53.F S54.pre S54.F S70.pre S70.F S97.pre S97.F S69.pre S69.F S98.pre S98.F S51.pre S51.F f a = _
  unfold t45 ulpF
  by_cases h : chk f a ≠ 0
  · have p0 := T82_bad ha h
    have : (chk f a != 0) = true := by simpa using h
    simp only [pre82 p0, fun82 p0, this, cond_true, if_pos h]
  have h : chk f a = 0 := Classical.not_not.1 h
  have hf := (chk_zero h).1
  rw [if_neg (show ¬ chk f a ≠ 0 from fun h' => h' h)]
  have p0 := T82_ok ha h
  simp only [pre82 p0, fun82 p0, pre53 (T53_eq _), fun53 (T53_eq _), pre54 (T54_eq _ _), fun54 (T54_eq _ _), pre70 (T70_ok hf), fun70 (T70_ok hf), pre97 (T97_ok hf _), fun97 (T97_ok hf _), cond_true, bne_self_eq_false, cond_false, cls_nan, cls_isInf]
  simp only [cls_snan, Bool.or_self]
  unfold ulpP
  cases hn : nan f a
  case true => rfl
  rw [snan_nan hn]
  simp only [cond_false]
  cases hi : isInf f a
  case true => rfl
  simp only [cond_false]
  have fa : eF f a ≠ fullF f := by
    rcases kinds3 f a with h1 | ⟨_, h2, _⟩ | ⟨_, _, h3⟩
    · rw [hn] at h1; cases h1
    · rw [hi] at h2; cases h2
    · exact h3
  have hX := fX_ge hf
  have hX2 := fX_le hf
  have hP := fP_ge hf
  have hP2 := fP_le hf
  have hE := e_fin hf fa
  have hx := xpn_bound hf a
  have p51 := T51_eq hf (m := 0) (by omega) false (n := 1) (Nat.lt_of_lt_of_le (show 1 < 2 ^ 1 by decide) (Nat.pow_le_pow_right (by decide) (by decide))) (by decide) (by decide) (xpn f a) (by omega)
  rw [ulp_rnd h fa] at p51
  dsimp only at p51
  have p69 := T69_ok hf
  have p98 := T98_ok h
  have r2 : (rowOf f).2.1 = (fP f : Int) := rfl
  have r3 : (rowOf f).2.2.1 = 1 - (fX f : Int) := rfl
  have ew : IntKind.wrap .i64 (eF f a : Int) = (eF f a : Int) := wrapI (by omega)
  have hmax : ∃ z : Int, (if (1 : Int) > (eF f a : Int) then (1 : Int) else (eF f a : Int)) = z ∧ z = xpn f a - qm f + 1 ∧ 0 ≤ z ∧ z ≤ 3000 := by
    refine ⟨_, rfl, ?_, ?_, ?_⟩
    · unfold xpn qm
      split <;> split <;> omega
    · split <;> omega
    · split <;> omega
  obtain ⟨z, hz, hz1, hz2, hz3⟩ := hmax
  have e1 : IntKind.wrap .i64 (z - 1) = z - 1 := wrapI (by omega)
  have e2 : IntKind.wrap .i64 (z - 1 + (1 - (fX f : Int))) = z - 1 + (1 - (fX f : Int)) := wrapI (by omega)
  have e3 : IntKind.wrap .i64 (z - 1 + (1 - (fX f : Int)) - (fP f : Int)) = z - 1 + (1 - (fX f : Int)) - (fP f : Int) := wrapI (by omega)
  have e4 : IntKind.wrap .i64 (z - 1 + (1 - (fX f : Int)) - (fP f : Int) + 1) = xpn f a := by
    rw [wrapI (by omega), hz1]; unfold qm; omega
  have p51' := p51
  unfold dy at p51'
  rw [Dw_one] at p51'
  simp only [pre69 p69, fun69 p69, cond_true, pre98 p98, fun98 p98, r2, r3, ew, hz, e1, e2, e3, e4, pre51 p51', fun51 p51']
  rfl
theorem T372_eq {f : Int} {a : Nat} (ha : a < 2 ^ 64) : T372 (f, (a : Int), ()) = some (ulpF f a) := by
  show t372 S108.pre S108.F S56.pre S56.F S84.pre S84.F S85.pre S85.F S169.pre S169.F S87.pre S87.F S89.pre S89.F S88.pre S88.F f a = _
  unfold t372 ulpF
  have p0 := T108_eq f a ha
  by_cases h : chk f a ≠ 0
  · have : (chk f a != 0) = true := by simpa using h
    simp only [pre108 p0, fun108 p0, cond_true, this, if_pos h]
  have h : chk f a = 0 := Classical.not_not.1 h
  have hf := (chk_zero h).1
  have p1 := nans_one hf ha
  have p2 := T84_ok hf
  have p3 := T85_eq hf ha
  have p4 : T169 (f, (0 : Int), ()) = some ((infB f false : Int), ()) := T169_ok hf false
  have p5 := T87_eq hf ha
  rw [if_neg (show ¬ chk f a ≠ 0 from fun h' => h' h)]
  rw [h] at p0
  simp only [pre108 p0, fun108 p0, cond_true, bne_self_eq_false, cond_false, pre56 p1, fun56 p1, pre84 p2, fun84 p2, pre85 p3, fun85 p3, pre169 p4, fun169 p4, pre87 p5, fun87 p5]
  unfold ulpP
  cases hn : nan f a
  case true => rfl
  rw [snan_nan hn]
  simp only [cond_false]
  cases hi : isInf f a
  case true => rfl
  simp only [cond_false]
  have fa : eF f a ≠ fullF f := by
    rcases kinds3 f a with h1 | ⟨_, h2, _⟩ | ⟨_, _, h3⟩
    · rw [hn] at h1; cases h1
    · rw [hi] at h2; cases h2
    · exact h3
  have hx := xpn_bound hf a
  have p8 : T89 (false, ((1 : Int) :: []), xpn f a, ()) = some (NumS false 1 (xpn f a), ()) := by
    unfold NumS
    rw [Dw_one]; rfl
  have p9 := T88_eq hf (m := 0) (by omega) false (N := 1) (by decide) (Nat.one_lt_two_pow (by decide)) (xpn f a) (by omega)
  rw [ulp_rnd h fa] at p9
  simp only [pre89 p8, fun89 p8, pre88 p9, fun88 p9, cond_true]
/-- LogB -/
noncomputable def logF (f : Int) (a : Nat) : Int × Int × Unit := if chk f a ≠ 0 then (0, chk f a, ()) else bif nan f a || isInf f a then (0, 40, ()) else bif zro f a then (0, 31, ()) else (xpn f a + (blen (mant f a) : Int) - 1, 0, ())
theorem W373_eq (w : Nat) (hw : w < 2 ^ 64) (h0 : w ≠ 0) (e : Int) (he : -100000 ≤ e ∧ e ≤ 100000) :
    W373_8 ((((w : Int), (e, ())), ()) : Pat.D P373_8) = some (.inl ((e + (blen w : Int) - 1, ()), ())) := by
  have hb0 : blen w ≤ 64 := blen_bound hw
  have key := lfix_ind (m373_8 S40.pre S40.F) (fun x => x.1.1.toNat)
    (fun x => ∃ v k : Nat, v ≠ 0 ∧ v < 2 ^ 64 ∧ k + blen v = blen w ∧ x = (((v : Int), (e + (k : Int), ())), ()))
    (fun _ => .inl ((e + (blen w : Int) - 1, ()), ())) ?_ (((w : Int), (e, ())), ()) ⟨w, 0, h0, hw, by omega, by rw [show e + ((0 : Nat) : Int) = e by omega]⟩
  · exact key
  intro L x hx hL
  obtain ⟨v, k, hv0, hv, hk, rfl⟩ := hx
  unfold h373_8
  by_cases hv1 : v = 1
  · subst hv1
    have e1 : decide (((1 : Nat) : Int) > 1) = false := rfl
    have e2 : blen 1 = 1 := rfl
    simp only [e1, cond_false]
    rw [show e + (k : Int) = e + (blen w : Int) - 1 by omega]
  · have hb : blen v = blen (v / 2) + 1 := blen_half hv0
    have hs : shrI .u64 (v : Int) 1 = ((v / 2 : Nat) : Int) := shrN v 1 (by omega)
    have e1 : decide ((v : Int) > 1) = true := decide_eq_true (by omega)
    have e3 : IntKind.wrap .i64 (e + (k : Int) + 1) = e + ((k + 1 : Nat) : Int) := by rw [wrapI (by omega)]; omega
    simp only [e1, cond_true, hs, e3]
    refine hL _ ⟨v / 2, k + 1, by omega, by omega, by omega, rfl⟩ (by simp only [Int.toNat_natCast]; omega)
theorem od_blen (s : Bool) {n : Nat} (h0 : n ≠ 0) (e : Int) : (od s n e).2.2 + (blen (od s n e).2.1 : Int) = e + (blen n : Int) := by
  rcases od_cases s n e with ⟨_, h⟩ | ⟨_, h2, h3, h4, h5⟩
  · exact absurd h h0
  · have hle : 2 ^ tz n ≤ n := by
      have := Nat.le_mul_of_pos_right (2 ^ tz n) (show 0 < (od s n e).2.1 by omega)
      omega
    have hb := blen_shift hle
    have hd : n / 2 ^ tz n = (od s n e).2.1 := by
      conv => lhs; lhs; rw [h4]
      exact Nat.mul_div_cancel_left _ (Nat.two_pow_pos _)
    rw [hd] at hb
    rw [h5]; omega
theorem isInf_full {f : Int} {a : Nat} (hfull : eF f a = fullF f) : (nan f a || isInf f a) = true := by
  obtain ⟨v1, _, v3⟩ := full_vals hfull
  rw [v1, v3]
  cases mF f a == 0 <;> rfl
theorem T373_eq {f : Int} {a : Nat} (ha : a < 2 ^ 64) : T373 (f, (a : Int), ()) = some (logF f a) := by
  show t373 S40.pre S40.F W373_8 f a = _
  unfold t373 logF
  by_cases h : chk f a ≠ 0
  · have p0 := T40_bad ha h
    have : (chk f a != 0) = true := by simpa using h
    simp only [pre40 p0, fun40 p0, this, cond_true, if_pos h]
  have h : chk f a = 0 := Classical.not_not.1 h
  have hf := (chk_zero h).1
  rw [if_neg (show ¬ chk f a ≠ 0 from fun h' => h' h)]
  by_cases hfull : eF f a = fullF f
  · have p0 := T40_full h hfull
    simp only [pre40 p0, fun40 p0, cond_true, isInf_full hfull]
    rfl
  have p0 := T40_fin h hfull
  have hni : (nan f a || isInf f a) = false := by
    obtain ⟨v1, _, v3⟩ := part_vals hfull
    rw [v1, v3]; rfl
  rw [hni, cond_false]
  simp only [pre40 p0, fun40 p0, cond_true, bne_self_eq_false, cond_false]
  have hml := mant_lt hf a
  have hx := xpn_bound hf a
  cases hz : zro f a
  · have h0 := zro_mant hz
    rcases od_cases (sF f a) (mant f a) (xpn f a) with ⟨_, h1⟩ | ⟨_, h2, h3, h4, h5⟩
    · exact absurd h1 h0
    have hle : (od (sF f a) (mant f a) (xpn f a)).2.1 ≤ mant f a := by
      have := Nat.le_mul_of_pos_left (od (sF f a) (mant f a) (xpn f a)).2.1 (Nat.two_pow_pos (tz (mant f a)))
      omega
    have htz := tz_le (k := 64) (by omega) h0
    have hD : (dyO (od (sF f a) (mant f a) (xpn f a))).2.1 = ((od (sF f a) (mant f a) (xpn f a)).2.1 : Int) :: [] := by
      show Dw _ = _
      exact Dw_small (by omega) (by omega)
    have hE : (dyO (od (sF f a) (mant f a) (xpn f a))).2.2.1 = (od (sF f a) (mant f a) (xpn f a)).2.2 := rfl
    have hw := W373_eq (od (sF f a) (mant f a) (xpn f a)).2.1 (by omega) (by omega) (od (sF f a) (mant f a) (xpn f a)).2.2 (by omega)
    have hob := od_blen (sF f a) h0 (xpn f a)
    rw [hob] at hw
    have hE2 : (dyO (od (sF f a) (mant f a) (xpn f a))).2.2 = ((od (sF f a) (mant f a) (xpn f a)).2.2, ()) := rfl
    rw [hD, hE2]
    show (bif ((1 : Int) == 0) then _ else bif decide ((0 : Int) < 1) then obind (W373_8 ((((od (sF f a) (mant f a) (xpn f a)).2.1 : Int), ((od (sF f a) (mant f a) (xpn f a)).2.2, ())), ())) _ else _) = _
    rw [hw]
    rfl
  · have hm0 : mant f a = 0 := by
      have h1 := hz
      unfold zro at h1
      rw [Bool.and_eq_true, beq_iff_eq, beq_iff_eq] at h1
      unfold mant
      rw [if_pos h1.1, h1.2]
    have hD : (dyO (od (sF f a) (mant f a) (xpn f a))).2.1 = [] := by
      rw [hm0]
      show Dw 0 = []
      exact Dw_zero
    rw [hD]
    rfl
theorem T374_eq {f : Int} {a : Nat} (ha : a < 2 ^ 64) : T374 (f, (a : Int), ()) = some (logF f a) := by
  show t374 S108.pre S108.F S109.pre S109.F S85.pre S85.F S87.pre S87.F S138.pre S138.F f a = _
  unfold t374 logF
  have p0 := T108_eq f a ha
  by_cases h : chk f a ≠ 0
  · have : (chk f a != 0) = true := by simpa using h
    simp only [pre108 p0, fun108 p0, cond_true, this, if_pos h]
  have h : chk f a = 0 := Classical.not_not.1 h
  have hf := (chk_zero h).1
  rw [if_neg (show ¬ chk f a ≠ 0 from fun h' => h' h)]
  have p1 := T109_eq hf ha
  have p3 := T85_eq hf ha
  have p5 := T87_eq hf ha
  rw [h] at p0
  simp only [pre108 p0, fun108 p0, cond_true, bne_self_eq_false, cond_false, pre109 p1, fun109 p1, pre85 p3, fun85 p3, pre87 p5, fun87 p5, Bool.true_or]
  cases hni : nan f a || isInf f a
  case true => rfl
  simp only [cond_false]
  have hml := mant_lt hf a
  have hx := xpn_bound hf a
  cases hz : zro f a
  · have h0 := zro_mant hz
    have hb := blen_bound (n := mant f a) (k := 64) (by omega)
    have p6 : T138 (((mant f a : Int) :: []), ()) = some ((blen (mant f a) : Int), ()) := by
      rw [← Dw_small h0 (by omega)]
      exact T138_dw (Nat.lt_of_lt_of_le (show mant f a < (2 ^ 64) ^ 1 by omega) (Nat.pow_le_pow_right (by decide) (by decide)))
    have e1 : ((mant f a : Int) == 0) = false := beq0_f _ (by omega)
    have e2 : IntKind.wrap .i64 (IntKind.wrap .i64 ((blen (mant f a) : Int) - 1) + xpn f a) = xpn f a + (blen (mant f a) : Int) - 1 := by
      rw [wrapI (n := (blen (mant f a) : Int) - 1) (by omega), wrapI (by omega)]; omega
    simp only [e1, cond_false, pre138 p6, fun138 p6, cond_true, e2]
  · have hm0 : mant f a = 0 := by
      have h1 := hz
      unfold zro at h1
      rw [Bool.and_eq_true, beq_iff_eq, beq_iff_eq] at h1
      unfold mant
      rw [if_pos h1.1, h1.2]
    rw [hm0]
    rfl
theorem T375_true (f : Int) {a : Nat} (ha : a < 2 ^ 64) : T375 (f, (a : Int), ()) = some (true, ()) := by
  show t375 S41.pre S41.F S369.pre S369.F S16.pre S16.F S42.pre S42.F S371.pre S371.F S45.pre S45.F S372.pre S372.F S373.pre S373.F S374.pre S374.F f a = _
  unfold t375
  have p1 := T41_eq (f := f) ha
  have p2 := T369_eq (f := f) ha
  have p3 := T42_eq (f := f) ha
  have p4 := T371_eq (f := f) ha
  have p5 := T45_eq (f := f) ha
  have p6 := T372_eq (f := f) ha
  have p7 := T373_eq (f := f) ha
  have p8 := T374_eq (f := f) ha
  have p16 := t16_true
  simp only [pre41 p1, fun41 p1, pre369 p2, fun369 p2, pre42 p3, fun42 p3, pre371 p4, fun371 p4, pre45 p5, fun45 p5, pre372 p6, fun372 p6, pre373 p7, fun373 p7, pre374 p8, fun374 p8, pre16 p16, fun16 p16, cond_true, Bool.not_true, bne_self_eq_false, Bool.or_self, cond_false, beq_self_eq_true, Bool.and_self]
end VL
namespace Vx
open Go Go.RowKit Go.ChangeShapes Go.WideShapes
/-- numbers in their ranges, lengths below 2^63 -/
def wfD : (τ : Shape) → Den τ → Prop
  | .int k, n => k.min ≤ n ∧ n ≤ k.max
  | .flt _, _ => True
  | .slice e, xs => xs.length < lim ∧ ∀ x ∈ xs, wfD e x
  | .pair a b, x => wfD a x.1 ∧ wfD b x.2
  | .bool, _ => True
  | .str, _ => True
  | .fn, _ => True
  | .unit, _ => True
theorem DRep.wfD {w : World} {S : Nat → Prop} : ∀ {τ : Shape} {x : Den τ} {cs : List Value}, DRep w S τ x cs → wfD τ x
  | .int _, _, _, h => h.2
  | .flt _, _, _, _ => trivial
  | .bool, _, _, _ => trivial
  | .str, _, _, _ => trivial
  | .fn, _, _, _ => trivial
  | .unit, _, _, _ => trivial
  | .slice _, xs, _, ⟨A, c, _, h1, h2, h3⟩ => by
    refine ⟨Nat.lt_of_le_of_lt h1 h2, fun x hx => ?_⟩
    obtain ⟨r, o, vs, T, fz, _, _, _, h⟩ := h3 (List.ne_nil_of_mem hx)
    obtain ⟨i, hi⟩ := List.getElem?_of_mem hx
    obtain ⟨ds, hd, _⟩ := h i x hi
    exact hd.wfD
  | .pair _ _, _, _, ⟨c1, c2, _, h1, h2⟩ => ⟨h1.wfD, h2.wfD⟩
def wfS : (sg : Sig) → DenS sg → Prop
  | [], _ => True
  | (_, τ) :: r, x => wfD τ x.1 ∧ wfS r x.2
/-- what a datum says -/
def undat {H : Type} : (τ : Shape) → (DataW H → Option (Den τ)) × (List (DataW H) → Option (Den τ))
  | .int k => (fun d => match d with | .lit (.int k' n) => if k' = k then some n else none | _ => none, fun _ => none)
  | .bool => (fun d => match d with | .lit (.bool b) => some b | _ => none, fun _ => none)
  | .unit => (fun d => match d with | .agg [] => some () | _ => none, fun l => match l with | [] => some () | _ => none)
  | .pair a b =>
    let f := fun l => match l with
      | d :: r => (match (undat a).1 d, (undat b).2 r with | some x, some y => some (x, y) | _, _ => none)
      | [] => none
    (fun d => match d with | .agg l => f l | _ => none, f)
  | .flt _ => (fun _ => none, fun _ => none)
  | .str => (fun _ => none, fun _ => none)
  | .fn => (fun _ => none, fun _ => none)
  | .slice _ => (fun _ => none, fun _ => none)
/-- a type's shape -/
def fitF (P : Program) (g : TypeId → Shape → Bool) : List Field → Nat → Shape → Bool
  | [], _, .unit => true
  | f :: fs, o, .pair a b => (f.offset == o) && (P.cellsOf f.type == a.width) && g f.type a && fitF P g fs (o + a.width) b
  | _, _, _ => false
def fitB (P : Program) : Nat → TypeId → Shape → Bool
  | 0, _, _ => false
  | n + 1, t, τ => match P.underlying t with
    | some (.int k) => (match τ with | .int k' => decide (k = k') | _ => false)
    | some .bool => (match τ with | .bool => true | _ => false)
    | some (.slice e) => (match τ with | .slice σ => (P.cellsOf e == σ.width) && decide (0 < σ.width) && fitB P n e σ | _ => false)
    | some (.struct fs) => (P.cellsOf t == τ.width) && fitF P (fitB P n) fs.toList 0 τ
    | _ => false
theorem choose_list {A : Type} {Q : Nat → A → Prop} : ∀ (n : Nat), (∀ i, i < n → ∃ x, Q i x) → ∃ xs : List A, xs.length = n ∧ ∀ i x, xs[i]? = some x → Q i x
  | 0, _ => ⟨[], rfl, fun i x h => by simp at h⟩
  | n + 1, h => by
    obtain ⟨xs, h1, h2⟩ := choose_list n fun i hi => h i (by omega)
    obtain ⟨x, hx⟩ := h n (by omega)
    refine ⟨xs ++ [x], by simp [h1], fun i y hy => ?_⟩
    rcases Nat.lt_or_ge i n with hi | hi
    · rw [List.getElem?_append_left (by omega)] at hy
      exact h2 i y hy
    · rw [List.getElem?_append_right (by omega)] at hy
      have : i = n := by
        have := (List.getElem?_eq_some_iff.1 hy).1
        simp at this; omega
      subst this
      simp [h1] at hy
      exact hy ▸ hx
theorem wf_int {k : IntKind} {n : Int} (h : (Lit.int k n).wf = true) : k.min ≤ n ∧ n ≤ k.max := by
  simpa [Lit.wf] using h
section
variable {H : Type} {enc : TypeId × Value → H} {P : Program} {W : World} {spare : Nat → Bool} {held : Bool}
theorem fitF_ok {n : Nat} {m : Nat} {cs : List Value} (ih : ∀ (t : TypeId) (τ : Shape) (cs : List Value) (d : DataW H) (p : List MemPlace), fitB P n t τ = true → DataW.trod enc P W 0 spare held m t cs = some (d, p) → ∃ x : Den τ, DRep W (fun q => q < W.heap.size) τ x cs ∧ ∀ y, (undat τ).1 d = some y → x = y) :
    ∀ (l : List Field) (o : Nat) (τ : Shape) (xs : List (DataW H × List MemPlace)), fitF P (fitB P n) l o τ = true → xs.length = l.length → cs.length = o + τ.width →
      (∀ (i : Nat) (f : Field), l[i]? = some f → DataW.trod enc P W 0 spare held m f.type ((cs.drop f.offset).take (P.cellsOf f.type)) = xs[i]?) →
      ∃ x : Den τ, DRep W (fun q => q < W.heap.size) τ x (cs.drop o) ∧ ∀ y, (undat τ).2 (xs.map (·.1)) = some y → x = y
  | [], o, τ, xs, hf, hx, hl, _ => by
    cases τ <;> simp [fitF] at hf
    refine ⟨(), ?_, fun _ _ => rfl⟩
    show cs.drop o = []
    apply List.drop_eq_nil_of_le
    simp [Shape.width] at hl
    omega
  | f :: fs, o, τ, xs, hf, hx, hl, h => by
    cases τ with
    | pair a b =>
      simp only [fitF, Bool.and_eq_true, beq_iff_eq] at hf
      obtain ⟨⟨⟨ho, hc⟩, hg⟩, hr⟩ := hf
      cases xs with
      | nil => simp at hx
      | cons x0 xs =>
        have h0 := h 0 f rfl
        rw [ho, hc] at h0
        simp only [List.getElem?_cons_zero] at h0
        obtain ⟨xa, ha, hua⟩ := ih f.type a _ x0.1 x0.2 hg h0
        simp only [Shape.width] at hl
        obtain ⟨xb, hb, hub⟩ := fitF_ok ih fs (o + a.width) b xs hr (by simpa using hx) (by rw [hl]; omega) fun i g hi => by
          have := h (i + 1) g (by simpa using hi)
          simpa using this
        refine ⟨(xa, xb), ⟨(cs.drop o).take a.width, cs.drop (o + a.width), ?_, ha, hb⟩, fun y hy => ?_⟩
        · rw [← List.drop_drop, List.take_append_drop]
        · simp only [undat, List.map_cons] at hy
          split at hy
          · rename_i e1 e2
            have := hua _ e1; have := hub _ e2
            subst_vars
            exact Option.some.inj hy
          · cases hy
    | _ => simp [fitF] at hf
theorem fit_ok : ∀ (n : Nat) (m : Nat) (t : TypeId) (τ : Shape) (cs : List Value) (d : DataW H) (p : List MemPlace), fitB P n t τ = true → DataW.trod enc P W 0 spare held m t cs = some (d, p) →
    ∃ x : Den τ, DRep W (fun q => q < W.heap.size) τ x cs ∧ ∀ y, (undat τ).1 d = some y → x = y
  | 0, _, _, _, _, _, _, h, _ => by simp [fitB] at h
  | n + 1, m, t, τ, cs, d, p, h, ht => by
    unfold fitB at h
    split at h
    · rename_i k hk
      cases τ with
      | int k' =>
        simp only [decide_eq_true_eq] at h
        subst h
        obtain ⟨v, hv, hx, hw⟩ := DataW.trod_int hk ht
        simp only [Prod.mk.injEq] at hx
        refine ⟨v, ⟨hv, wf_int hw⟩, fun y hy => ?_⟩
        rw [hx.1] at hy
        simp only [undat, if_true] at hy
        exact Option.some.inj hy
      | _ => cases h
    · rename_i hk
      cases τ with
      | bool =>
        obtain ⟨v, hv, hx⟩ := DataW.trod_bool hk ht
        simp only [Prod.mk.injEq] at hx
        refine ⟨v, hv, fun y hy => ?_⟩
        rw [hx.1] at hy
        simp only [undat] at hy
        exact Option.some.inj hy
      | _ => cases h
    · rename_i e hk
      cases τ with
      | slice σ =>
        simp only [Bool.and_eq_true, beq_iff_eq, decide_eq_true_eq] at h
        obtain ⟨⟨hc, hpos⟩, hf⟩ := h
        rcases DataW.trod_slice hk ht with ⟨hcs, hx⟩ | ⟨a, len, cap, elems, rest, m', rfl, hcs, hx, hb, hlc, hcap, hlen, hel, _⟩
        · exact ⟨[], ⟨none, 0, hcs, Nat.le_refl _, by decide, fun h => absurd rfl h⟩, fun y hy => by simp [undat] at hy⟩
        · have each : ∀ i, i < len → ∃ x : Den σ, ∃ ds, W.cells? 0 (a.add (i * P.cellsOf e)) (P.cellsOf e) = some ds ∧ DRep W (fun q => q < W.heap.size) σ x ds := fun i hi => by
            have := hel i hi
            rw [List.getElem?_eq_getElem (by omega), Option.bind_eq_some_iff] at this
            obtain ⟨ds, h1, h2⟩ := this
            obtain ⟨x, hx, _⟩ := fit_ok n m' e σ ds (elems[i]'(by omega)).1 (elems[i]'(by omega)).2 hf h2
            exact ⟨x, ds, h1, hx⟩
          obtain ⟨xs, hxl, hxs⟩ := choose_list len each
          refine ⟨xs, ⟨some a, cap, by rw [hxl]; exact hcs, by omega, by unfold lim; unfold maxLen at hcap; omega, fun hne => ?_⟩, fun y hy => by simp [undat] at hy⟩
          have h0 : 0 < xs.length := List.length_pos_iff.2 hne
          obtain ⟨ds0, hd0, _⟩ := hxs 0 xs[0] (List.getElem?_eq_getElem h0)
          obtain ⟨_, hl0, hc0⟩ := World.cells?_some hd0
          have hz : a.add (0 * P.cellsOf e) = a := by simp [Addr.add]
          have hz' : a.add 0 = a := by simp [Addr.add]
          rw [hz] at hc0
          have hc00 := hc0 0 (by omega)
          rw [hz', List.getElem?_eq_getElem (by omega)] at hc00
          unfold World.cell? at hc00
          split at hc00
          · rename_i c T fz hheap
            split at hc00
            · cases hc00
            · rename_i hspot
              have hs : a.spot = none := by simpa using hspot
              have hadd : ∀ q, a.add q = ⟨a.block, a.off + q, none⟩ := fun q => by
                unfold Addr.add
                split
                · subst_vars; cases a; simp at hs; simp [hs]
                · rfl
              have ha : a = ⟨a.block, a.off, none⟩ := by cases a; simp at hs; simp [hs]
              refine ⟨a.block, a.off, c, T, fz, by rw [← ha], ?_, hheap, fun i x hi => ?_⟩
              · exact (Array.getElem?_eq_some_iff.1 hheap).1
              · obtain ⟨ds, hd, hr⟩ := hxs i x hi
                refine ⟨ds, hr, fun j v hj => ?_⟩
                obtain ⟨_, hl, hcj⟩ := World.cells?_some hd
                have hjl : j < P.cellsOf e := by rw [← hl]; exact (List.getElem?_eq_some_iff.1 hj).1
                have := hcj j hjl
                rw [hadd, hj] at this
                have hadd2 : (⟨a.block, a.off + i * P.cellsOf e, none⟩ : Addr).add j = ⟨a.block, a.off + i * P.cellsOf e + j, none⟩ := by
                  unfold Addr.add
                  split
                  · subst_vars; rfl
                  · rfl
                rw [hadd2] at this
                unfold World.cell? at this
                simp only [hheap] at this
                rw [hc] at this
                exact this
          · cases hc00
      | _ => cases h
    · rename_i fs hk
      simp only [Bool.and_eq_true, beq_iff_eq] at h
      obtain ⟨hc, hf⟩ := h
      obtain ⟨xs, m', rfl, hx, hl, hxl, hel⟩ := DataW.trod_struct hk ht
      simp only [Prod.mk.injEq] at hx
      obtain ⟨x, h1, h2⟩ := fitF_ok (fun t τ cs d p => fit_ok n m' t τ cs d p) fs.toList 0 τ xs hf (by simpa using hxl) (by rw [hl, hc]; omega) fun i f hi => hel i f (by simpa using hi)
      refine ⟨x, by simpa using h1, fun y hy => h2 y ?_⟩
      rw [hx.1] at hy
      cases τ with
      | pair a b => exact hy
      | unit =>
        simp only [undat] at hy ⊢
        split at hy
        · rename_i e; simp only [DataW.agg.injEq] at e; rw [e]
        · cases hy
      | _ => simp [undat] at hy
    · cases h
end
end Vx
namespace Vx
open Go Go.RowKit Go.ChangeShapes Go.WideShapes
def isStruct (P : Program) (t : TypeId) : Bool := match P.underlying t with
  | some (.struct _) => true
  | _ => false
def fitS (P : Program) (n : Nat) : List TypeId → Sig → Bool
  | [], [] => true
  | t :: ts, (a, τ) :: r => fitB P n t τ && (a == isStruct P t) && fitS P n ts r
  | _, _ => false
section
variable {H : Type} {enc : TypeId × Value → H} {P : Program} {W : World}
theorem cells_one {n : Nat} {t : TypeId} {τ : Shape} {r : Reach} {b0 : Nat} {v : Value} (hf : fitB P n t τ = true) (hs : isStruct P t = false) (hv : Value.okWide P W r b0 t v) : v.cells.toList = [v] := by
  cases n with
  | zero => simp [fitB] at hf
  | succ n =>
    unfold fitB at hf
    split at hf
    · rename_i k hk; obtain ⟨_, rfl⟩ := okWide_int hk hv; rfl
    · rename_i hk; obtain ⟨_, rfl⟩ := okWide_bool hk hv; rfl
    · rename_i e hk; obtain ⟨_, _, _, rfl⟩ := okWide_slice hk hv; rfl
    · rename_i fs hk; simp [isStruct, hk] at hs
    · cases hf
theorem erep_plain {S : Nat → Prop} {a : Bool} {τ : Shape} {x : Den τ} {y : Value} (ho : ownE a τ = false) (h : PRep W S a τ x y) : ERep W S a τ x y [] := by
  cases τ with
  | slice e =>
    cases a with
    | true => cases ho
    | false => exact ⟨rfl, h⟩
  | _ => exact ⟨rfl, h⟩
theorem args_ok {n : Nat} {sp : Nat → Bool} {held : Bool} {b0 : Nat} : ∀ (ts : List TypeId) (I : Sig) (vs : List Value) (ds : List (DataW H)) (ps : List MemPlace), fitS P n ts I = true →
    (∀ (j : Nat) (t : TypeId) (v : Value), ts[j]? = some t → vs[j]? = some v → Value.okWide P W .any b0 t v) → DataW.TrodAll enc P W 0 sp held ts vs ds ps → ∃ x : DenS I, SRep W (fun q => q < W.heap.size) I x vs [] ∧ wfS I x ∧ ds.length = ts.length
  | [], [], vs, ds, ps, _, _, h => by
    cases vs <;> cases ds <;> simp [DataW.TrodAll] at h
    exact ⟨(), ⟨rfl, rfl⟩, trivial, rfl⟩
  | [], _ :: _, _, _, _, hf, _, _ => by simp [fitS] at hf
  | _ :: _, [], _, _, _, hf, _, _ => by simp [fitS] at hf
  | t :: ts, (a, τ) :: I, vs, ds, ps, hf, hv, h => by
    cases vs with
    | nil => simp [DataW.TrodAll] at h
    | cons v vs =>
      cases ds with
      | nil => simp [DataW.TrodAll] at h
      | cons d ds =>
        obtain ⟨p, q, ⟨m, hp⟩, hq, _⟩ := h
        simp only [fitS, Bool.and_eq_true, beq_iff_eq] at hf
        obtain ⟨⟨h1, h2⟩, h3⟩ := hf
        obtain ⟨x, hx, hw, hl⟩ := args_ok ts I vs ds q h3 (fun j t v ht hv' => hv (j + 1) t v (by simpa using ht) (by simpa using hv')) hq
        obtain ⟨y, hy, _⟩ := fit_ok n m t τ _ d p h1 hp
        have hok := hv 0 t v rfl rfl
        refine ⟨(y, x), ⟨v, vs, [], [], rfl, rfl, erep_plain ?_ ?_, hx⟩, ⟨hy.wfD, hw⟩, by simp [hl]⟩
        · cases τ with
          | slice σ =>
            show a = false
            rw [h2]
            cases n with
            | zero => simp [fitB] at h1
            | succ n =>
              unfold fitB at h1
              unfold isStruct
              split at h1 <;> rename_i hk <;> first | (rw [hk]; done) | (simp only [hk]; done) | (simp [fitF] at h1; done) | skip
          | _ => rfl
        cases a with
        | true =>
          have hs : isStruct P t = true := h2.symm
          unfold isStruct at hs
          split at hs
          · rename_i fs hk
            unfold Value.okWide at hok
            rw [hk] at hok
            obtain ⟨cs, rfl, _⟩ := hok
            exact ⟨cs.toList, by simp, hy⟩
          · cases hs
        | false =>
          have hs : isStruct P t = false := h2.symm
          rw [cells_one h1 hs hok] at hy
          exact hy
theorem trodAll_below (hl : laidOutB P = true) {W' : World} (hb : Below W.heap.size W W') : ∀ (ts : List TypeId) (vs : List Value) (ds : List (DataW H)) (ps : List MemPlace), (ts.all fun t => P.readableRec t && decide (t < P.types.size)) = true →
    DataW.TrodAll enc P W 0 (fun _ => true) true ts vs ds ps → (∀ x ∈ ps, x.block < W.heap.size) → DataW.TrodAll enc P W' 0 (fun b => decide (b < W.heap.size)) true ts vs ds ps
  | [], vs, ds, ps, _, h, _ => by
    cases vs <;> cases ds <;> simp [DataW.TrodAll] at h ⊢
    exact h
  | t :: ts, vs, ds, ps, hr, h, hlt => by
    cases vs with
    | nil => simp [DataW.TrodAll] at h
    | cons v vs =>
      cases ds with
      | nil => simp [DataW.TrodAll] at h
      | cons d ds =>
        obtain ⟨p, q, hp, hq, rfl⟩ := h
        simp only [List.all_cons, Bool.and_eq_true, decide_eq_true_eq] at hr
        exact ⟨p, q, Below.trod hl hr.1.1 hr.1.2 hp hb (fun x hx => hlt x (List.mem_append.2 (.inl hx))),
          trodAll_below hl hb ts vs ds q hr.2 hq (fun x hx => hlt x (List.mem_append.2 (.inr hx))), rfl⟩
/-- a table that is laid -/
theorem glob_of {n : String} {g : Nat} {t e : TypeId} {m k : Nat} {τ : Shape} {ds : List (DataW Unit)} {xs : List (Den τ)} {r : List (String × DataW Unit)} {ps : List MemPlace}
    (hL : DataW.LaidVars P W ((n, .agg ds) :: r) ps) (hg : P.globalNamed n = some g) (ht : (P.globals[g]?).map (·.type) = some t) (hu : P.underlying t = some (.array m e)) (hc : P.cellsOf e = τ.width) (hf : fitB P k e τ = true)
    (hx : ds.map (undat τ).1 = xs.map some) :
    (g < W.heap.size ∧ ∃ vs T fz, W.heap[g]? = some (.cells vs T fz) ∧ Rows W (fun q => q < W.heap.size) τ vs 0 xs) ∧ ∃ ps', DataW.LaidVars P W r ps' := by
  obtain ⟨g', t', cs, fuel, p, q, h1, h2, h3, h4, h5, _⟩ := hL
  rw [hg] at h1; cases h1
  rw [ht] at h2; cases h2
  refine ⟨?_, q, h5⟩
  unfold World.var? at h3
  rw [hg] at h3
  simp only [Option.bind_some] at h3
  split at h3
  · rename_i c T fz hh
    cases h3
    refine ⟨(Array.getElem?_eq_some_iff.1 hh).1, cs, T, fz, hh, ?_⟩
    obtain ⟨ys, m', rfl, hy, hl, hyl, hel⟩ := DataW.trod_array hu h4
    simp only [Prod.mk.injEq, DataW.agg.injEq] at hy
    intro i x hi
    have hxl : xs.length = m := by
      have := congrArg List.length hx
      simp [hy.1, hyl] at this
      omega
    have him : i < m := by rw [← hxl]; exact (List.getElem?_eq_some_iff.1 hi).1
    have he := hel i him
    have hyi : ys[i]? = some (ys[i]'(by omega)) := List.getElem?_eq_getElem (by omega)
    rw [hyi, hc] at he
    obtain ⟨x', h6, h7⟩ := fit_ok k m' e τ _ _ _ hf he
    have hd : (undat τ).1 (ys[i]'(by omega)).1 = some x := by
      have := congrArg (·[i]?) hx
      simp only [List.getElem?_map, hy.1, hyi, hi, Option.map_some] at this
      exact Option.some.inj this
    have := h7 x hd
    subst this
    refine ⟨_, h6, fun j v hj => ?_⟩
    rw [List.getElem?_take] at hj
    split at hj
    · rw [List.getElem?_drop] at hj
      simpa using hj
    · cases hj
  · cases h3
theorem returns_true {G : List (Nat × Sigma fun τ => List (Den τ))} {f : FuncId} {I : Sig} {T : DenS I → Option (DenS [(false, .bool)])} {d : DenS [(false, .bool)]} (hS : Sound P G f (sumOf I [(false, .bool)] T d)) {x : DenS I} (hT : T x = some (true, ())) (hcal : ∃ fn, P.funcs[f]? = some fn ∧ fn.body.isNone = false ∧ (fn.name == "runtime.NumGoroutine") = false) {W : World} {args : Array Value}
    (hG : GlobsOk G W fun q => q < W.heap.size) (ha : SRep W (fun q => q < W.heap.size) I x args.toList []) : Calls P f args W fun e W' => e = .returned (.bool true) ∧ Below W.heap.size W W' := by
  have := hS.calls x (by show (T x).isSome = true; rw [hT]; rfl) W (fun q => q < W.heap.size) args.toList [] (fun q h => h) hG ha List.nodup_nil (fun r h => by simp at h)
  rw [Array.toArray_toList] at this
  have this := this.resolve_right (fun ⟨v, hv, _⟩ => by rw [run_callFunc hcal] at hv; cases hv)
  refine this.2.mono fun e W' ⟨zs, rs', he, hb, _, _, hz⟩ => ⟨?_, ⟨hb.os, hb.tape, hb.output, hb.size, fun k hk => hb.block k hk (fun h => by simp at h)⟩⟩
  obtain ⟨y, ys, r1, r2, rfl, _, ⟨_, h1⟩, rfl, _⟩ := hz
  have h2 : [y] = [Value.bool ((T x).getD d).1] := h1
  rw [hT] at h2
  cases h2
  exact he
/-- what a law's row asks -/
theorem law_post {G : List (Nat × Sigma fun τ => List (Den τ))} {f : FuncId} {fn : Func} {I : Sig} {T : DenS I → Option (DenS [(false, .bool)])} {d : DenS [(false, .bool)]} {s : ChangeSpec} {n : Nat} {tb : TypeId}
    (hS : Sound P G f (sumOf I [(false, .bool)] T d)) (hT : ∀ x, wfS I x → T x = some (true, ())) (hcal : ∃ fn, P.funcs[f]? = some fn ∧ fn.body.isNone = false ∧ (fn.name == "runtime.NumGoroutine") = false) (hlay : laidOutB P = true) (hfit : fitS P n fn.params.toList I = true)
    (hread : (fn.params.toList.all fun t => P.readableRec t && decide (t < P.types.size)) = true) (hres : fn.resultTypes = #[tb]) (hbool : P.underlying tb = some .bool) (hvars : s.vars = [])
    (hspec : ∀ ds : List (DataW H), ds.length = fn.params.toList.length → s.fn H ds = { results := [.lit (.bool true)], args := ds })
    {W : World} {base : Nat} {args : Array Value} {ds gs : List (DataW H)} {before : List MemPlace}
    (hval : ∀ (j : Nat) (t : TypeId) (v : Value), fn.params[j]? = some t → args[j]? = some v → Value.okWide P W .any base t v)
    (hW : DataW.Whole enc P fn.params.toList s.vars false W args.toList ds gs before) (hG : GlobsOk G W fun q => q < W.heap.size) :
    Calls P f args W fun e W' => ∃ v, e = .returned v ∧ ChangeSpec.post enc P fn s false true false false W args v W' := by
  have hW' := hW
  obtain ⟨p, q, hA, hV, rfl, _, _⟩ := hW
  rw [hvars] at hV
  obtain ⟨rfl, rfl⟩ := trodVars_none hV
  obtain ⟨x, hx, hw, hlen⟩ := args_ok (b0 := base) fn.params.toList I args.toList ds p hfit (fun j t v ht hv => hval j t v (by simpa using ht) (by simpa using hv)) hA
  refine (returns_true hS (hT x hw) hcal hG hx).mono fun e W' ⟨he, hb⟩ => ⟨.bool true, he, ds, [], p ++ [], [], p, [], hW', ?_, ?_, ?_, hb.frame _, fun h => by cases h⟩
  · rw [List.append_nil, hspec ds hlen, hres]
    exact trodAll_mk1 (shut_bool hbool true)
  · rw [List.append_nil, hspec ds hlen]
    exact trodAll_below hlay hb _ _ _ _ hread hA fun y hy => by simpa using hW'.lt y (by simpa using hy)
  · rw [List.append_nil, hspec ds hlen, hvars]
    rfl
end
theorem globs_nil {W : World} {S : Nat → Prop} : GlobsOk [] W S := fun _ _ _ h => by simp [findGlob] at h
theorem globs_cons {W : World} {S : Nat → Prop} {g : Nat} {τ : Shape} {xs : List (Den τ)} {G : List (Nat × Sigma fun τ => List (Den τ))} (h : S g ∧ ∃ vs T fz, W.heap[g]? = some (.cells vs T fz) ∧ Rows W S τ vs 0 xs) (r : GlobsOk G W S) :
    GlobsOk ((g, ⟨τ, xs⟩) :: G) W S := fun g' τ' xs' hf => by
  simp only [findGlob] at hf
  cases hb : Nat.beq g g' with
  | true =>
    have := Nat.eq_of_beq_eq_true hb
    subst this
    rw [hb] at hf
    simp only [cond_true, Option.some.injEq] at hf
    cases hf
    exact h
  | false =>
    rw [hb] at hf
    exact r g' τ' xs' hf
end Vx
