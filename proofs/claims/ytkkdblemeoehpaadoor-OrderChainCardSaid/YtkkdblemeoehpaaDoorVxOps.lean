/- Operands and plain operations: what is computed is what the model does. -/
import Derived.Test.YtkkdblemeoehpaaDoorVxMem
import Derived.Laws.Slices
namespace Vx
open Go Go.RowKit

theorem min_max (k : IntKind) : k.min ≤ 0 ∧ 0 ≤ k.max := by cases k <;> decide

theorem okLit_ok {k : IntKind} {n : Int} (h : okLit k n = true) : k.min ≤ n ∧ n ≤ k.max := by
  cases k <;> simp [okLit] at h <;> simp [IntKind.min, IntKind.max, IntKind.signed, IntKind.bits] <;> omega

def CsOk (σ : Sit) (a : Act) (cs : List (Nat × Nat × Bool × TV)) : Prop :=
  ∀ d g p x, (d, g, p, x) ∈ cs → (a.tmps.getD g undef = .bool p → RepT σ x (a.tmps.getD d undef)) ∧ (a.tmps.getD g undef ≠ .bool p → a.tmps.getD d undef = undef)

structure RelT (σ : Sit) (s : St) (a : Act) : Prop where
  size : a.tmps.size = s.n
  defers : a.defers = []
  mem : σ.mem = s.mem
  tm : ∀ t, RepT σ (getT s.tm t) (a.tmps.getD t undef)
  cs : CsOk σ a s.cs

def CtxOk (a : Act) (ctx : List (Nat × Bool)) : Prop := ∀ t p, (t, p) ∈ ctx → a.tmps.getD t undef = .bool p

theorem CsOk.tail {σ : Sit} {a : Act} {e : Nat × Nat × Bool × TV} {cs : List (Nat × Nat × Bool × TV)} (h : CsOk σ a (e :: cs)) : CsOk σ a cs :=
  fun d g p x hm => h d g p x (List.mem_cons_of_mem _ hm)

theorem hasTag_mem : ∀ {l : List (Nat × Bool)} {g : Nat} {q : Bool}, hasTag l g q = true → (g, q) ∈ l
  | [], _, _, h => by simp [hasTag] at h
  | (t, p) :: r, g, q, h => by
    simp only [hasTag, Bool.or_eq_true, Bool.and_eq_true] at h
    rcases h with ⟨h1, h2⟩ | h
    · have : t = g := Nat.eq_of_beq_eq_true h1
      subst this
      have : p = q := by cases p <;> cases q <;> simp_all [pb]
      subst this
      exact List.mem_cons_self
    · exact List.mem_cons_of_mem _ (hasTag_mem h)

theorem getCs_mem : ∀ {cs : List (Nat × Nat × Bool × TV)} {t g : Nat} {p : Bool} {x : TV}, getCs cs t = some ((g, p), x) → (t, g, p, x) ∈ cs
  | [], _, _, _, _, h => by simp [getCs] at h
  | (d, g', p', x') :: r, t, g, p, x, h => by
    simp only [getCs] at h
    cases hb : Nat.beq d t with
    | true =>
      rw [hb] at h; simp at h
      have : d = t := Nat.eq_of_beq_eq_true hb
      obtain ⟨⟨rfl, rfl⟩, rfl⟩ := h
      subst this
      exact List.mem_cons_self
    | false => rw [hb] at h; exact List.mem_cons_of_mem _ (getCs_mem h)

theorem undef_ne (b : Bool) : undef ≠ .bool b := by unfold undef; intro h; cases h

theorem cval_ok {σ : Sit} {s : St} {a : Act} (ht : ∀ t, RepT σ (getT s.tm t) (a.tmps.getD t undef)) : ∀ {cs : List (Nat × Nat × Bool × TV)}, CsOk σ a cs → ∀ {t : Nat} {p c : Bool}, cval s.tm cs t p = some c →
    (c = true ↔ a.tmps.getD t undef = .bool p)
  | [], _, t, p, c, h => by
    simp only [cval] at h
    have := ht t
    split at h
    · rename_i b e
      cases h
      rw [e] at this
      obtain ⟨h1, _⟩ := this
      rw [h1]
      cases p <;> cases b <;> simp [pb]
    · cases h
  | (d, g, q, x) :: r, hc, t, p, c, h => by
    simp only [cval] at h
    cases hb : Nat.beq d t with
    | false => rw [hb] at h; exact cval_ok ht hc.tail h
    | true =>
      rw [hb] at h
      have : d = t := Nat.eq_of_beq_eq_true hb
      subst this
      simp only [cond_true] at h
      split at h
      · rename_i b
        split at h
        · rename_i c' hc'
          cases h
          have ih := cval_ok ht hc.tail hc'
          have hd := hc d g q _ List.mem_cons_self
          by_cases hg : a.tmps.getD g undef = .bool q
          · have hc'' : c' = true := ih.2 hg
            obtain ⟨h1, _⟩ := hd.1 hg
            rw [h1, hc'']
            cases p <;> cases b <;> simp [pb]
          · have : c' = false := by cases c' with | false => rfl | true => exact absurd (ih.1 rfl) hg
            rw [hd.2 hg, this]
            simp [undef_ne]
        · cases h
      · cases h

theorem ctxOf_ok {σ : Sit} {a : Act} : ∀ {cs : List (Nat × Nat × Bool × TV)}, CsOk σ a cs → ∀ {t : Nat} {p : Bool}, a.tmps.getD t undef = .bool p → CtxOk a (ctxOf cs t p)
  | [], _, t, p, h => by
    intro t' p' hm
    simp only [ctxOf, List.mem_singleton, Prod.mk.injEq] at hm
    obtain ⟨rfl, rfl⟩ := hm
    exact h
  | (d, g, q, x) :: r, hc, t, p, h => by
    simp only [ctxOf]
    cases hb : Nat.beq d t with
    | false => exact ctxOf_ok hc.tail h
    | true =>
      have : d = t := Nat.eq_of_beq_eq_true hb
      subst this
      have hd := hc d g q _ List.mem_cons_self
      have hg : a.tmps.getD g undef = .bool q := by
        refine Classical.byContradiction fun hn => ?_
        rw [hd.2 hn] at h
        exact undef_ne p h
      intro t' p' hm
      simp only [cond_true, List.mem_cons, Prod.mk.injEq] at hm
      rcases hm with ⟨rfl, rfl⟩ | hm
      · exact h
      · exact ctxOf_ok hc.tail hg t' p' hm

theorem fbits_eq : fbits .f32 = 32 ∧ fbits .f64 = 64 := ⟨rfl, rfl⟩

theorem scOfConst_ok {σ : Sit} {v : Value} {c : SC} (h : scOfConst v = some c) : RepC σ c v := by
  unfold scOfConst at h
  split at h
  · cases h; exact ⟨rfl, trivial⟩
  · rename_i k n
    cases hb : okLit k n with
    | false => rw [hb] at h; cases h
    | true => rw [hb] at h; cases h; exact ⟨rfl, okLit_ok hb⟩
  · rename_i b
    cases hb : Nat.blt b 4294967296 with
    | false => rw [hb] at h; cases h
    | true => rw [hb] at h; cases h; exact ⟨b, rfl, by simpa [fbits] using hb, rfl⟩
  · rename_i b
    cases hb : Nat.blt b 18446744073709551616 with
    | false => rw [hb] at h; cases h
    | true => rw [hb] at h; cases h; exact ⟨b, rfl, by simpa [fbits] using hb, rfl⟩
  · rename_i s
    cases hb : Nat.blt s.size 9223372036854775808 with
    | false => rw [hb] at h; cases h
    | true => rw [hb] at h; cases h; exact ⟨rfl, by simpa [lim, wfV] using hb⟩
  · cases h; exact ⟨rfl, trivial⟩
  · cases h; exact ⟨rfl, trivial⟩
  · cases h; exact ⟨rfl, trivial⟩
  · cases h; exact ⟨rfl, trivial⟩
  · rename_i f first captured
    split at h
    · rename_i h1 h2
      cases h
      refine ⟨by simp, trivial, .inr ⟨[], rfl, ?_⟩⟩
      have e1 : first = #[] := Array.toList_inj.1 (h1.trans rfl)
      have e2 : captured = #[] := Array.toList_inj.1 (h2.trans rfl)
      rw [e1, e2]; rfl
    · cases h
  · cases h

theorem scsOfConst_ok {σ : Sit} : ∀ {l : List Value} {cs : List SC}, scsOfConst l = some cs → All2 (RepC σ) cs l
  | [], _, h => by simp [scsOfConst] at h; subst h; exact .nil
  | v :: r, _, h => by
    simp only [scsOfConst] at h
    split at h
    · rename_i c cs h1 h2
      cases h
      exact .cons (scOfConst_ok h1) (scsOfConst_ok h2)
    · cases h

theorem svOfConst_ok {σ : Sit} {v : Value} {x : SV} (h : svOfConst v = some x) : RepV σ x v := by
  unfold svOfConst at h
  split at h
  · rename_i cs
    split at h
    · rename_i l h1
      cases h
      exact ⟨cs.toList, by simp, scsOfConst_ok h1⟩
    · cases h
  · split at h
    · rename_i c h1
      cases h
      exact scOfConst_ok h1
    · cases h

theorem ev_ok {σ : Sit} {s : St} {a : Act} {ctx : List (Nat × Bool)} (hr : RelT σ s a) (hx : CtxOk a ctx) {x : Operand} {v : TV} (h : ev s ctx x = some v) : RepT σ v (a.eval x) := by
  cases x with
  | tmp t =>
    simp only [ev] at h
    split at h
    · rename_i g p y e
      cases hb : hasTag ctx g p with
      | false => rw [hb] at h; cases h
      | true =>
        rw [hb] at h; cases h
        exact (hr.cs _ _ _ _ (getCs_mem e)).1 (hx _ _ (hasTag_mem hb))
    · cases h; exact hr.tm t
  | const v =>
    simp only [ev] at h
    split at h
    · rename_i y e
      cases h
      exact svOfConst_ok e
    · cases h
  | global g => simp only [ev] at h; cases h; rfl
  | func f =>
    simp only [ev] at h; cases h
    exact ⟨by simp, trivial, .inr ⟨[], rfl, rfl⟩⟩

theorem ev1_ok {σ : Sit} {s : St} {a : Act} {ctx : List (Nat × Bool)} (hr : RelT σ s a) (hx : CtxOk a ctx) {x : Operand} {c : SC} (h : ev1 s ctx x = some c) : RepC σ c (a.eval x) := by
  unfold ev1 at h
  split at h
  · rename_i c' e; cases h; exact ev_ok hr hx e
  · cases h

theorem evV_ok {σ : Sit} {s : St} {a : Act} {ctx : List (Nat × Bool)} (hr : RelT σ s a) (hx : CtxOk a ctx) {x : Operand} {c : SV} (h : evV s ctx x = some c) : RepV σ c (a.eval x) := by
  unfold evV at h
  split at h
  · rename_i c' e; cases h; exact ev_ok hr hx e
  · cases h

theorem evVs_ok {σ : Sit} {s : St} {a : Act} {ctx : List (Nat × Bool)} (hr : RelT σ s a) (hx : CtxOk a ctx) : ∀ {l : List Operand} {cs : List SV}, evVs s ctx l = some cs → All2 (RepV σ) cs (l.map a.eval)
  | [], _, h => by simp [evVs] at h; subst h; exact .nil
  | x :: r, _, h => by
    simp only [evVs] at h
    split at h
    · rename_i v vs h1 h2
      cases h
      exact .cons (evV_ok hr hx h1) (evVs_ok hr hx h2)
    · cases h

theorem evParts_ok {σ : Sit} {s : St} {a : Act} {ctx : List (Nat × Bool)} (hr : RelT σ s a) (hx : CtxOk a ctx) : ∀ {l : List (Nat × Operand)} {cs : List (Nat × SV)}, evParts s ctx l = some cs →
    All2 (fun p q => p.1 = q.1 ∧ RepV σ p.2 q.2) cs (l.map fun p => (p.1, a.eval p.2))
  | [], _, h => by simp [evParts] at h; subst h; exact .nil
  | (i, x) :: r, _, h => by
    simp only [evParts] at h
    split at h
    · rename_i v vs h1 h2
      cases h
      exact .cons ⟨rfl, evV_ok hr hx h1⟩ (evParts_ok hr hx h2)
    · cases h

theorem intArg_ok {σ : Sit} {s : St} {a : Act} {ctx : List (Nat × Bool)} (hr : RelT σ s a) (hx : CtxOk a ctx) {x : Operand} {n : Int} (h : intArg s ctx x = some n) :
    ∃ k, a.eval x = .int k n ∧ k.min ≤ n ∧ n ≤ k.max := by
  unfold intArg at h
  split at h
  · rename_i k m e
    cases h
    obtain ⟨h1, h2⟩ := ev1_ok hr hx e
    exact ⟨k, h1, h2⟩
  · cases h

theorem RepV.cells {σ : Sit} {x : SV} {y : Value} (h : RepV σ x y) : All2 (RepC σ) x.cells y.cells.toList := by
  cases x with
  | one c =>
    have hs := RepC.scalar h
    have : y.cells = #[y] := by cases y <;> first | rfl | exact hs.elim
    rw [this]
    exact .cons h .nil
  | agg cs =>
    obtain ⟨ys, rfl, ha⟩ := h
    simpa [Value.cells, SV.cells] using ha

/-! ### numbers -/
theorem wrap_ok {σ : Sit} (k : IntKind) (n : Int) : RepC σ (.v (.int k (k.wrap n))) (.int k (k.wrap n)) := ⟨rfl, wrap_within k n⟩

theorem shr_range {k : IntKind} {x : Int} (h : k.min ≤ x ∧ x ≤ k.max) (n : Nat) : k.min ≤ x.fdiv (2 ^ n) ∧ x.fdiv (2 ^ n) ≤ k.max := by
  have hp : (0 : Int) < 2 ^ n := Int.pow_pos (by omega)
  have hm := min_max k
  rw [Int.fdiv_eq_ediv_of_nonneg _ (Int.le_of_lt hp)]
  refine ⟨?_, ?_⟩
  · refine (Int.le_ediv_iff_mul_le hp).2 ?_
    refine Int.le_trans ?_ h.1
    have := Int.mul_le_mul_of_nonpos_left (a := k.min) (b := 2 ^ n) (c := 1) hm.1 (by omega)
    omega
  · rcases Int.le_total 0 x with hx | hx
    · exact Int.le_trans (Int.ediv_le_self _ hx) h.2
    · have : x / 2 ^ n ≤ 0 := Int.ediv_nonpos_of_nonpos_of_neg hx hp
      omega

theorem tmod_le' {x : Int} (y : Int) (h : 0 ≤ x) : x.tmod y ≤ x := by
  have h1 := Int.natAbs_tmod x y
  have h2 := Nat.mod_le x.natAbs y.natAbs
  omega

theorem tmod_range {k : IntKind} {x y : Int} (h : k.min ≤ x ∧ x ≤ k.max) : k.min ≤ x.tmod y ∧ x.tmod y ≤ k.max := by
  have hm := min_max k
  rcases Int.le_total 0 x with hx | hx
  · have h1 := Int.tmod_nonneg y hx
    have h2 : x.tmod y ≤ x := tmod_le' _ hx
    omega
  · have h1 : x.tmod y ≤ 0 := by
      have := Int.tmod_nonneg y (a := -x) (by omega)
      rw [Int.neg_tmod] at this
      omega
    have h2 : x ≤ x.tmod y := by
      have := tmod_le' (x := -x) y (by omega)
      rw [Int.neg_tmod] at this
      omega
    omega

end Vx
