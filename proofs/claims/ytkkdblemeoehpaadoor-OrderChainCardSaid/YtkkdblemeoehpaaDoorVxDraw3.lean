/- The draw: every order. -/
import Derived.Test.YtkkdblemeoehpaaDoorVxDraw2
namespace Vx
open Go Go.RowKit

variable {C : Cfg}

/-- what is known of a region whose check stands -/
structure Reg (C : Cfg) (ops : List Oper) (s0 : St) (S : Nat → St) (xs : Nat → TV) (fs : Nat → FP) : Prop where
  ok : ∃ fps : List FP, okDraw ops fps = true ∧ ∀ j o, ops[j]? = some o → fps[j]? = some (fs j)
  tr : Trace C ops s0 S xs fs
  cs0 : s0.cs = []

section
variable {ops : List Oper} {s0 : St} {S : Nat → St} {xs : Nat → TV} {fs : Nat → FP}

def anc (ops : List Oper) (j : Nat) : List Nat := ((ancs [] ops)[j]?).getD []

theorem Reg.row (h : Reg C ops s0 S xs fs) {j : Nat} {y : Oper} (hj : ops[j]? = some y) :
    (∀ i ∈ preds y, i < j) ∧ memKind y.op < 3 ∧ dstIn y (looks ops y) = false ∧ (∃ fps : List FP, okRow ops fps (ancs [] ops) j y 0 ops = true ∧ ∀ j o, ops[j]? = some o → fps[j]? = some (fs j)) ∧ ∀ g p, y.guard = some (g, p) → g < j := by
  obtain ⟨fps, h1, h2⟩ := h.ok
  have := okRows_spec ops 0 h1 j y hj
  simp only [Nat.zero_add] at this
  exact ⟨this.1, this.2.1, this.2.2.1, ⟨fps, this.2.2.2.1, h2⟩, this.2.2.2.2⟩

theorem Reg.pair (h : Reg C ops s0 S xs fs) {i j : Nat} {x y : Oper} (hi : ops[i]? = some x) (hj : ops[j]? = some y) (hij : i < j) :
    dstSame x y = false ∧ (i ∈ anc ops j ∨ (dstIn x (looks ops y) = false ∧ dstIn y (looks ops x) = false ∧ fpApart (fs i) (fs j) = true)) := by
  obtain ⟨fps, h0, hf⟩ := (h.row hj).2.2.2.1
  have h1 := okRow_spec ops 0 h0 i x hi (by omega)
  rw [Nat.zero_add] at h1
  simp only [okPair, hf i x hi, hf j y hj, Option.getD_some, Bool.and_eq_true, Bool.or_eq_true, Bool.not_eq_true'] at h1
  refine ⟨h1.1, ?_⟩
  rcases h1.2 with h2 | h2
  · exact .inl (memB_iff.1 h2)
  · exact .inr ⟨h2.1.1, h2.1.2, h2.2⟩

theorem Reg.anc_eq (h : Reg C ops s0 S xs fs) {j : Nat} {y : Oper} (hj : ops[j]? = some y) : anc ops j = (preds y).flatMap fun i => i :: anc ops i := by
  have := ancs_get ops [] j y hj _ rfl (by simpa using (h.row hj).1)
  simp only [List.length_nil, Nat.zero_add] at this
  unfold anc
  rw [this]
  rfl

theorem Reg.distinct (h : Reg C ops s0 S xs fs) {i j : Nat} {x y : Oper} {d : Nat} (hi : ops[i]? = some x) (hj : ops[j]? = some y) (hx : x.dst = some d) (hy : y.dst = some d) : i = j := by
  rcases Nat.lt_trichotomy i j with hlt | heq | hgt
  · have := (h.pair hi hj hlt).1
    rw [dstSame_iff.2 ⟨d, hx, hy⟩] at this; cases this
  · exact heq
  · have := (h.pair hj hi hgt).1
    rw [dstSame_iff.2 ⟨d, hy, hx⟩] at this; cases this

theorem Reg.parts (h : Reg C ops s0 S xs fs) : ∀ j, j ≤ ops.length → (S j).n = s0.n ∧ (S j).m0 = s0.m0
  | 0, _ => by rw [h.tr.zero]; exact ⟨rfl, rfl⟩
  | j + 1, hj => by
    obtain ⟨_, h2, _⟩ := h.tr.step j ops[j] (List.getElem?_eq_getElem (by omega))
    have ih := h.parts j (by omega)
    rw [h2]
    exact ⟨applyD_parts.1.trans ih.1, applyD_parts.2.trans ih.2⟩

theorem evalD_guard {o : Oper} {s : St} {g : Bool} {x : TV} {mem : Mem} {gi : Nat} {p : Bool} {fp : FP} (hg : o.guard = some (gi, p)) (h : evalD C ops o s = some (fp, g, x, mem)) : ∃ t d, gslot ops gi = some t ∧ o.dst = some d := by
  unfold evalD at h
  rw [hg] at h
  simp only at h
  split at h
  · rename_i t d e1 e2; exact ⟨t, d, e1, e2⟩
  · cases h

/-- what stands in a slot in state j -/
theorem Reg.tm_old (h : Reg C ops s0 S xs fs) : ∀ j, j ≤ ops.length → ∀ t, (∀ i o, i < j → ops[i]? = some o → o.dst ≠ some t) → getT (S j).tm t = getT s0.tm t
  | 0, _, t, _ => by rw [h.tr.zero]
  | j + 1, hj, t, ht => by
    have hg : ops[j]? = some ops[j] := List.getElem?_eq_getElem (by omega)
    obtain ⟨_, h2, _⟩ := h.tr.step j _ hg
    have ih := h.tm_old j (by omega) t fun i o hi => ht i o (by omega)
    rw [h2, ← ih]
    have hne := ht j _ (by omega) hg
    unfold applyD
    split
    · rfl
    · rename_i d ed
      have hdt : Nat.beq d t = false := by
        cases hb : Nat.beq d t with
        | false => rfl
        | true => have := Nat.eq_of_beq_eq_true hb; subst this; exact absurd ed hne
      split
      · simp only [getT, hdt, cond_false]
      · split
        · simp only [getT, hdt, cond_false]
        · rfl

theorem Reg.tm_new (h : Reg C ops s0 S xs fs) {i : Nat} {o : Oper} {t : Nat} (hi : ops[i]? = some o) (ht : o.dst = some t) : ∀ j, i < j → j ≤ ops.length → getT (S j).tm t = (match o.guard with | none => xs i | some _ => .un)
  | 0, hij, _ => by omega
  | j + 1, hij, hj => by
    have hg : ops[j]? = some ops[j] := List.getElem?_eq_getElem (by omega)
    obtain ⟨h1, h2, _⟩ := h.tr.step j _ hg
    by_cases hji : j = i
    · subst hji
      rw [hg] at hi
      cases hi
      rw [h2]
      unfold applyD
      simp only [ht]
      cases hgu : (ops[j]).guard with
      | none => simp [getT, Nat.beq_refl]
      | some gp =>
        obtain ⟨gi, p⟩ := gp
        obtain ⟨t', d, e1, _⟩ := evalD_guard hgu h1
        simp only [e1]
        simp [getT, Nat.beq_refl]
    · have ih := h.tm_new hi ht j (by omega) (by omega)
      rw [h2, ← ih]
      have hne : ops[j].dst ≠ some t := fun e => hji (h.distinct hg hi e ht)
      unfold applyD
      split
      · rfl
      · rename_i d ed
        have hdt : Nat.beq d t = false := by
          cases hb : Nat.beq d t with
          | false => rfl
          | true => have := Nat.eq_of_beq_eq_true hb; subst this; exact absurd ed hne
        split
        · simp only [getT, hdt, cond_false]
        · split
          · simp only [getT, hdt, cond_false]
          · rfl

theorem Reg.cs_of (h : Reg C ops s0 S xs fs) : ∀ j, j ≤ ops.length → ∀ d g p x, (d, g, p, x) ∈ (S j).cs → ∃ i o gi, i < j ∧ ops[i]? = some o ∧ o.dst = some d ∧ o.guard = some (gi, p) ∧ gslot ops gi = some g ∧ x = xs i
  | 0, _, d, g, p, x, hm => by rw [h.tr.zero, h.cs0] at hm; simp at hm
  | j + 1, hj, d, g, p, x, hm => by
    have hg : ops[j]? = some ops[j] := List.getElem?_eq_getElem (by omega)
    obtain ⟨h1, h2, _⟩ := h.tr.step j _ hg
    have ih := h.cs_of j (by omega) d g p x
    have old : (d, g, p, x) ∈ (S j).cs → ∃ i o gi, i < j + 1 ∧ ops[i]? = some o ∧ o.dst = some d ∧ o.guard = some (gi, p) ∧ gslot ops gi = some g ∧ x = xs i := fun hm => by
      obtain ⟨i, o, gi, q1, q2⟩ := ih hm; exact ⟨i, o, gi, by omega, q2⟩
    rw [h2] at hm
    unfold applyD at hm
    split at hm
    · exact old hm
    · rename_i d' ed
      split at hm
      · exact old hm
      · rename_i gi p' eg
        split at hm
        · rename_i t et
          rcases List.mem_cons.1 hm with hm | hm
          · cases hm
            exact ⟨j, _, gi, by omega, hg, ed, eg, et, rfl⟩
          · exact old hm
        · exact old hm

/-- who writes a block -/
def Wr : FP → Nat → Prop
  | .wr none, _ => True
  | .wr (some c), b => c = b
  | _, _ => False

theorem fpOf_kind {s : St} {ctx : List (Nat × Bool)} {op : Op} (hk : memKind op ≤ 1) : ∀ o, fpOf s ctx op ≠ .wr o := by
  have addr : ∀ y o, fpAddr s ctx y ≠ .wr o := fun y o => by
    unfold fpAddr
    (repeat' split) <;> simp
  intro o
  cases op <;> simp only [fpOf, memKind] at hk ⊢ <;> first | exact addr _ o | (simp; done) | omega | skip
  (repeat' split) <;> first | exact addr _ o | simp

theorem blkAt_set_ne {mem : Mem} {b c : Nat} {e : Blk} (h : c ≠ b) : blkAt (mem.set c e) b = blkAt mem b := by
  unfold blkAt
  rw [List.getElem?_set_ne h]

/-- what the text's order does to the memory at one operation -/
theorem Reg.mem_cases (h : Reg C ops s0 S xs fs) {j : Nat} {o : Oper} (hj : ops[j]? = some o) :
    (memKind o.op ≤ 1 ∧ (S (j + 1)).mem = (S j).mem ∧ ∀ q, fs j ≠ .wr q) ∨ (memKind o.op = 2 ∧ o.guard = none ∧ (fs j = .wr none ∨ ∃ c e, fs j = .wr (some c) ∧ (S (j + 1)).mem = (S j).mem.set c e ∧ blkAt (S j).mem c ≠ .gone)) := by
  obtain ⟨h1, _, _⟩ := h.tr.step j o hj
  have hk3 := (h.row hj).2.1
  unfold evalD at h1
  simp only at h1
  split at h1
  · rename_i hg
    obtain ⟨hb, h1⟩ := cond_some h1
    split at h1
    · rename_i g x mem e
      simp only [Option.some.injEq, Prod.mk.injEq] at h1
      obtain ⟨hfs, _, _, hmem⟩ := h1
      by_cases hk : memKind o.op ≤ 1
      · left
        have hb : calm (restr ops o (S j)) [] o.op = true := by
          simp only [Bool.or_eq_true] at hb
          rcases hb with hb | hb
          · exact hb
          · have := Nat.eq_of_beq_eq_true hb; omega
        exact ⟨hk, by rw [← hmem]; exact kind1_mem hb hk e, fun q => by rw [← hfs]; exact fpOf_kind hk q⟩
      · right
        refine ⟨by omega, hg, ?_⟩
        rw [← hfs, ← hmem]
        cases hop : o.op with
        | store T y z =>
          cases hf : fpOf (restr ops o (S j)) [] (.store T y z) with
          | wr q =>
            cases q with
            | none => exact .inl rfl
            | some c =>
              obtain ⟨hng, e', he, _⟩ := fp_store hop e (m2 := (restr ops o (S j)).mem) (b := c) (by rw [hop]; exact hf) rfl
              exact .inr ⟨c, e', rfl, he, hng⟩
          | _ => simp only [fpOf] at hf; (repeat' split at hf) <;> first | cases hf | (cases hq : notOwns _ <;> rw [hq] at hf <;> cases hf)
        | alloc T => exact .inl rfl
        | box T y => exact .inl rfl
        | call c =>
          exfalso
          rw [hop] at hk hk3
          simp only [memKind] at hk hk3
          generalize hz : c.callee = z at hk hk3
          cases z with
          | value f => simp at hk
          | invoke r m => simp at hk3
          | builtin b => cases b <;> simp at hk hk3
        | _ => exfalso; rw [hop] at hk hk3; simp only [memKind] at hk hk3; omega
    · cases h1
  · split at h1
    · obtain ⟨hb, h1⟩ := cond_some h1
      simp only [Bool.and_eq_true] at hb
      split at h1
      · rename_i e
        simp only [Option.some.injEq, Prod.mk.injEq] at h1
        left
        have hk : memKind o.op ≤ 1 := by
          have hl := hb.1.1
          cases hop : o.op <;> rw [hop] at hl hk3 <;> simp only [lazyOp, memKind] at hl hk3 ⊢ <;> first | omega | cases hl | skip
          split at hl <;> rename_i hc <;> first | cases hl | (split <;> first | omega | skip)
          all_goals (split at hk3 <;> first | omega | simp_all)
        exact ⟨hk, by rw [← h1.2.2.2]; exact kind1_mem hb.2 hk e, fun q => by rw [← h1.1]; exact fpOf_kind hk q⟩
      · cases h1
    · cases h1

end

end Vx
