/- Any order that the edges allow leads where the text's order leads. -/
import Derived.Test.YtkkdblemeoehpaaDoorVxDraw
namespace Vx
open Go Go.RowKit

variable {C : Cfg}

/-- how the text's order goes on: state j is ahead of operation j -/
structure Trace (C : Cfg) (ops : List Oper) (s0 : St) (S : Nat → St) (xs : Nat → TV) (fs : Nat → FP) : Prop where
  zero : S 0 = s0
  step : ∀ j o, ops[j]? = some o → evalD C ops o (S j) = some (fs j, true, xs j, (S (j + 1)).mem) ∧ S (j + 1) = applyD ops o (S j) (xs j) (S (j + 1)).mem ∧ ∀ d, o.dst = some d → d < (S j).n

theorem trace_from {ops : List Oper} : ∀ (l : List Oper) (s s' : St) (fps : List FP) (gs : List Bool), drawRun C ops l s = some (fps, gs, s') → (∀ g ∈ gs, g = true) →
    ∃ (S : Nat → St) (xs : Nat → TV) (fs : Nat → FP), (∀ j o, l[j]? = some o → fps[j]? = some (fs j)) ∧ S 0 = s ∧ S l.length = s' ∧ ∀ j o, l[j]? = some o → evalD C ops o (S j) = some (fs j, true, xs j, (S (j + 1)).mem) ∧ S (j + 1) = applyD ops o (S j) (xs j) (S (j + 1)).mem ∧ ∀ d, o.dst = some d → d < (S j).n
  | [], s, s', fps, gs, h, _ => by
    simp only [drawRun] at h; cases h
    exact ⟨fun _ => s, fun _ => .un, fun _ => .pure, fun j o hj => by simp at hj, rfl, rfl, fun j o hj => by simp at hj⟩
  | o :: l, s, s', fps, gs, h, hg => by
    simp only [drawRun] at h
    split at h
    · rename_i fp g x mem e
      obtain ⟨hb, h⟩ := cond_some h
      split at h
      · rename_i fps' gs' s'' e2
        cases h
        obtain ⟨S, xs, fs, h0, h1, h2, h3⟩ := trace_from l _ _ _ _ e2 fun g hgg => hg g (by simp [hgg])
        have hgt : g = true := hg g (by simp)
        subst hgt
        have hmem : (S 0).mem = mem := by
          rw [h1]; unfold applyD; split
          · rfl
          · split
            · rfl
            · split <;> rfl
        refine ⟨fun j => match j with | 0 => s | j + 1 => S j, fun j => match j with | 0 => x | j + 1 => xs j, fun j => match j with | 0 => fp | j + 1 => fs j, fun j q hj => ?_, rfl, by simpa using h2, fun j q hj => ?_⟩
        · cases j with
          | zero => rfl
          | succ j => simpa using h0 j q (by simpa using hj)
        cases j with
        | zero =>
          simp at hj; subst hj
          refine ⟨by simp only [hmem]; exact e, by simp only [hmem]; exact h1, fun d hd => ?_⟩
          rw [hd] at hb
          simpa using hb
        | succ j => exact h3 j q (by simpa using hj)
      · cases h
    · cases h

theorem applyD_parts {ops : List Oper} {o : Oper} {s : St} {x : TV} {mem : Mem} : (applyD ops o s x mem).n = s.n ∧ (applyD ops o s x mem).m0 = s.m0 := by
  unfold applyD
  split
  · exact ⟨rfl, rfl⟩
  · split
    · exact ⟨rfl, rfl⟩
    · split <;> exact ⟨rfl, rfl⟩

/-! the static check, read as facts -/
theorem memB_iff : ∀ {l : List Nat} {n : Nat}, memB n l = true ↔ n ∈ l
  | [], n => by simp [memB]
  | m :: r, n => by
    simp only [memB, Bool.or_eq_true, memB_iff, List.mem_cons]
    constructor
    · rintro (h | h)
      · exact .inl (Nat.eq_of_beq_eq_true h).symm
      · exact .inr h
    · rintro (h | h)
      · subst h; exact .inl (Nat.beq_refl _)
      · exact .inr h

theorem dstIn_iff {o : Oper} {l : List Nat} : dstIn o l = true ↔ ∃ d, o.dst = some d ∧ d ∈ l := by
  unfold dstIn
  cases o.dst with
  | none => simp
  | some d => simp [memB_iff]

theorem dstSame_iff {x y : Oper} : dstSame x y = true ↔ ∃ d, x.dst = some d ∧ y.dst = some d := by
  unfold dstSame
  cases x.dst <;> cases y.dst <;> simp
  rename_i a b
  exact ⟨fun h => h.symm, fun h => h.symm⟩

theorem allLt_iff : ∀ {l : List Nat} {j : Nat}, allLt j l = true → ∀ i ∈ l, i < j
  | [], _, _, i, h => by simp at h
  | m :: r, j, h, i, hi => by
    simp only [allLt, Bool.and_eq_true] at h
    rcases List.mem_cons.1 hi with rfl | hi
    · simpa using h.1
    · exact allLt_iff h.2 i hi

theorem okRow_spec {ops : List Oper} {fps : List FP} {A : List (List Nat)} {j : Nat} {y : Oper} : ∀ (l : List Oper) (k : Nat), okRow ops fps A j y k l = true → ∀ i x, l[i]? = some x → k + i < j → okPair ops fps A (k + i) j x y = true
  | [], _, _, i, x, h, _ => by simp at h
  | z :: r, k, h, i, x, hi, hij => by
    simp only [okRow] at h
    have hk : Nat.blt k j = true := by simp; omega
    rw [hk] at h
    simp only [cond_true, Bool.and_eq_true] at h
    cases i with
    | zero => simp at hi; subst hi; exact h.1
    | succ i =>
      have := okRow_spec r (k + 1) h.2 i x (by simpa using hi) (by omega)
      rw [show k + (i + 1) = k + 1 + i by omega]
      exact this

theorem okRows_spec {ops : List Oper} {fps : List FP} {A : List (List Nat)} : ∀ (l : List Oper) (k : Nat), okRows ops fps A k l = true → ∀ j y, l[j]? = some y →
    (∀ i ∈ preds y, i < k + j) ∧ memKind y.op < 3 ∧ dstIn y (looks ops y) = false ∧ okRow ops fps A (k + j) y 0 ops = true ∧ ∀ g p, y.guard = some (g, p) → g < k + j
  | [], _, _, j, y, h => by simp at h
  | z :: r, k, h, j, y, hj => by
    simp only [okRows, Bool.and_eq_true, Bool.not_eq_true'] at h
    obtain ⟨⟨⟨⟨⟨h1, h2⟩, h3⟩, h4⟩, h6⟩, h5⟩ := h
    cases j with
    | zero =>
      simp at hj; subst hj
      refine ⟨allLt_iff h1, by simpa using h2, h3, h4, fun g p e => ?_⟩
      rw [e] at h6
      simpa using h6
    | succ j =>
      have := okRows_spec r (k + 1) h5 j y (by simpa using hj)
      rw [show k + (j + 1) = k + 1 + j by omega]
      exact this

theorem flatMap_congr' {α β : Type} {f g : α → List β} : ∀ {l : List α}, (∀ x ∈ l, f x = g x) → l.flatMap f = l.flatMap g
  | [], _ => rfl
  | x :: l, h => by
    rw [List.flatMap_cons, List.flatMap_cons, h x (by simp), flatMap_congr' fun y hy => h y (by simp [hy])]

theorem ancs_prefix : ∀ (l : List Oper) (acc : List (List Nat)) (i : Nat), i < acc.length → (ancs acc l)[i]? = acc[i]?
  | [], acc, i, _ => rfl
  | o :: r, acc, i, h => by
    simp only [ancs]
    rw [ancs_prefix r _ i (by simp; omega), List.getElem?_append_left h]

theorem ancs_get : ∀ (l : List Oper) (acc : List (List Nat)) (j : Nat) (o : Oper), l[j]? = some o → ∀ fin, fin = ancs acc l → (∀ i ∈ preds o, i < acc.length + j) →
    fin[acc.length + j]? = some ((preds o).flatMap fun i => i :: (fin[i]?).getD [])
  | [], _, _, _, h, _, _, _ => by simp at h
  | z :: r, acc, 0, o, h, fin, hf, hp => by
    simp at h; subst h
    subst hf
    simp only [ancs]
    rw [Nat.add_zero, ancs_prefix r _ acc.length (by simp)]
    rw [List.getElem?_append_right (Nat.le_refl _)]
    simp only [Nat.sub_self, List.getElem?_cons_zero, Option.some.injEq]
    refine flatMap_congr' fun i hi => ?_
    have := hp i hi
    rw [ancs_prefix r _ i (by simp; omega), List.getElem?_append_left (by omega)]
  | z :: r, acc, j + 1, o, h, fin, hf, hp => by
    simp only [ancs] at hf
    have := ancs_get r _ j o (by simpa using h) fin hf (fun i hi => by have := hp i hi; simp; omega)
    simp only [List.length_append, List.length_cons, List.length_nil] at this
    rw [show acc.length + (j + 1) = acc.length + (0 + 1) + j by omega]
    exact this

end Vx
