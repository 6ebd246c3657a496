/- The memory that a call has made, by names: invariants, and how they last. -/
import Derived.Test.YtkkdblemeoehpaaDoorVxRep
namespace Vx
open Go Go.RowKit

def ownedB : Blk → Prop
  | .raw _ => True
  | .arr _ _ => True
  | .acc _ _ => True
  | _ => False

def Sit.owned (σ : Sit) (b r : Nat) : Prop := ownedB (blkAt σ.mem b) ∧ σ.E.β b = some r

def MemAt (σ : Sit) (b : Nat) : Prop :=
  match blkAt σ.mem b with
  | .gone => True
  | .froz _ _ => True
  | .raw cs => ∃ r vs T, σ.E.β b = some r ∧ σ.w.heap[r]? = some (.cells vs T (0, 0)) ∧ All2 (RepC σ) cs vs.toList
  | .arr τ xs => xs.length < lim ∧ ∃ r vs T, σ.E.β b = some r ∧ σ.w.heap[r]? = some (.cells vs T (0, 0)) ∧ vs.size = xs.length * τ.width ∧ Rows σ.w σ.S τ vs 0 xs
  | .acc τ xs => xs.length ≤ σ.E.κ b ∧ σ.E.κ b < lim ∧ ((σ.E.β b = none ∧ σ.E.κ b = 0) ∨
      ∃ r vs T, σ.E.β b = some r ∧ σ.w.heap[r]? = some (.cells vs T (0, 0)) ∧ vs.size = σ.E.κ b * τ.width ∧ Rows σ.w σ.S τ vs 0 xs)

structure Ok (base : World) (S0 : Nat → Prop) (σ : Sit) : Prop where
  below : Below base.heap.size base σ.w
  stab0 : ∀ r, S0 r → σ.S r
  stab : ∀ r, σ.S r → r < σ.w.heap.size ∧ (S0 r ∨ base.heap.size ≤ r)
  ent : ∀ b, MemAt σ b
  own : ∀ b r, σ.owned b r → base.heap.size ≤ r ∧ r < σ.w.heap.size ∧ ¬ σ.S r
  inj : ∀ b b' r, σ.owned b r → σ.owned b' r → b = b'

theorem Rows.mono {w w' : World} {S S' : Nat → Prop} (hS : ∀ r, S r → S' r) (hH : ∀ r, S r → w'.heap[r]? = w.heap[r]?) {e : Shape} {vs : Array Value} {o : Nat} {xs : List (Den e)}
    (h : Rows w S e vs o xs) : Rows w' S' e vs o xs := fun i x hi => by
  obtain ⟨ds, h1, h2⟩ := h i x hi
  exact ⟨ds, h1.mono hS hH, h2⟩

theorem blkAt_lt {mem : Mem} {b : Nat} (h : blkAt mem b ≠ .gone) : b < mem.length := by
  unfold blkAt at h
  rcases Nat.lt_or_ge b mem.length with h' | h'
  · exact h'
  · rw [List.getElem?_eq_none h'] at h; exact absurd rfl h

theorem blkAt_append_lt {mem l : Mem} {b : Nat} (h : b < mem.length) : blkAt (mem ++ l) b = blkAt mem b := by
  unfold blkAt; rw [List.getElem?_append_left h]
theorem blkAt_append_at {mem : Mem} {e : Blk} : blkAt (mem ++ [e]) mem.length = e := by
  unfold blkAt; simp
theorem blkAt_append_gt {mem : Mem} {e : Blk} {b : Nat} (h : mem.length < b) : blkAt (mem ++ [e]) b = .gone := by
  unfold blkAt; rw [List.getElem?_eq_none (by simp; omega)]; rfl
theorem blkAt_set {mem : Mem} {e : Blk} {b b' : Nat} (hb : b < mem.length) : blkAt (mem.set b e) b' = if b' = b then e else blkAt mem b' := by
  unfold blkAt
  by_cases h : b' = b
  · subst h; rw [if_pos rfl, List.getElem?_set_self hb]; rfl
  · rw [if_neg h, List.getElem?_set_ne (fun e => h e.symm)]
theorem blkAt_ge {mem : Mem} {b : Nat} (h : mem.length ≤ b) : blkAt mem b = .gone := by
  unfold blkAt; rw [List.getElem?_eq_none h]; rfl

theorem Turns.refl {σ σ' : Sit} {b : Nat} (hm : blkAt σ'.mem b = blkAt σ.mem b) (hb : σ'.E.β b = σ.E.β b) (hk : σ'.E.κ b = σ.E.κ b) : Turns σ σ' b := by
  unfold Turns
  cases e : blkAt σ.mem b with
  | gone => simp only; rw [hm, e]
  | raw cs => exact ⟨hb, cs, hm.trans e⟩
  | arr τ xs => exact .inl ⟨hb, xs, hm.trans e, rfl⟩
  | acc τ xs => exact .inl ⟨hb, hk, hm.trans e⟩
  | froz τ xs => exact hm.trans e

theorem Goes.refl (σ : Sit) : Goes σ σ := ⟨fun _ h => h, fun _ _ => rfl, Nat.le_refl _, fun _ _ => Turns.refl rfl rfl rfl⟩

/-- entries that stay what they are, in a world that keeps what is stable and what is owned -/
theorem MemAt.keep {σ σ' : Sit} (hg : Goes σ σ') {b : Nat} (hm : blkAt σ'.mem b = blkAt σ.mem b) (hb : σ'.E.β b = σ.E.β b) (hk : σ'.E.κ b = σ.E.κ b)
    (hh : ∀ r, σ.owned b r → σ'.w.heap[r]? = σ.w.heap[r]?) (h : MemAt σ b) : MemAt σ' b := by
  unfold MemAt at h ⊢
  rw [hm]
  cases e : blkAt σ.mem b with
  | gone => trivial
  | froz τ xs => trivial
  | raw cs =>
    rw [e] at h
    obtain ⟨r, vs, T, h1, h2, h3⟩ := h
    exact ⟨r, vs, T, hb.trans h1, (hh r ⟨by rw [e]; trivial, h1⟩).trans h2, h3.mono fun _ _ => hg.repC⟩
  | arr τ xs =>
    rw [e] at h
    obtain ⟨h0, r, vs, T, h1, h2, h3, h4⟩ := h
    exact ⟨h0, r, vs, T, hb.trans h1, (hh r ⟨by rw [e]; trivial, h1⟩).trans h2, h3, h4.mono hg.stab hg.heap⟩
  | acc τ xs =>
    rw [e] at h
    obtain ⟨h0, h00, h⟩ := h
    refine ⟨by rw [hk]; exact h0, by rw [hk]; exact h00, ?_⟩
    rcases h with ⟨h1, h2⟩ | ⟨r, vs, T, h1, h2, h3, h4⟩
    · exact .inl ⟨hb.trans h1, hk.trans h2⟩
    · exact .inr ⟨r, vs, T, hb.trans h1, (hh r ⟨by rw [e]; trivial, h1⟩).trans h2, by rw [hk]; exact h3, h4.mono hg.stab hg.heap⟩

theorem arr_reads {w : World} {S : Nat → Prop} {τ : Shape} {xs : List (Den τ)} {r : Nat} {vs : Array Value} {T : TypeId} {fz : Nat × Nat} {c : Nat} (hS : S r) (hh : w.heap[r]? = some (.cells vs T fz))
    (hr : Rows w S τ vs 0 xs) (hc : xs.length ≤ c) (hl : c < lim) : DRep w S (.slice τ) xs [.slice (some ⟨r, 0, none⟩) xs.length c] :=
  ⟨_, c, rfl, hc, hl, fun _ => ⟨r, 0, vs, T, fz, rfl, hS, hh, hr⟩⟩

/-- a row is no longer written -/
theorem froze {base : World} {S0 : Nat → Prop} {σ : Sit} (ho : Ok base S0 σ) {b : Nat} {τ : Shape} {xs : List (Den τ)} (he : blkAt σ.mem b = .arr τ xs ∨ blkAt σ.mem b = .acc τ xs) :
    ∃ σ' : Sit, σ'.mem = σ.mem.set b (.froz τ xs) ∧ σ'.w = σ.w ∧ σ'.E = σ.E ∧ Ok base S0 σ' ∧ Goes σ σ' := by
  have hlt : b < σ.mem.length := blkAt_lt (by rcases he with h | h <;> rw [h] <;> simp)
  refine ⟨⟨σ.E, σ.mem.set b (.froz τ xs), σ.w, fun r => σ.S r ∨ σ.E.β b = some r⟩, rfl, rfl, rfl, ?_⟩
  have howned : ∀ r, σ.E.β b = some r → σ.owned b r := fun r hr => ⟨by rcases he with h | h <;> rw [h] <;> trivial, hr⟩
  have hent := ho.ent b
  have hread : ∀ r, σ.E.β b = some r → ∀ c, (blkAt σ.mem b = .arr τ xs → c = xs.length) → (blkAt σ.mem b = .acc τ xs → c = σ.E.κ b) →
      DRep σ.w (fun r => σ.S r ∨ σ.E.β b = some r) (.slice τ) xs [.slice (some ⟨r, 0, none⟩) xs.length c] := fun r hr c hc1 hc2 => by
    unfold MemAt at hent
    rcases he with h | h
    · rw [h] at hent
      obtain ⟨hl, r', vs, T, h1, h2, h3, h4⟩ := hent
      rw [hr] at h1; cases h1
      rw [hc1 h]
      exact arr_reads (.inr hr) h2 (h4.mono (fun _ h => .inl h) fun _ _ => rfl) (Nat.le_refl _) hl
    · rw [h] at hent
      obtain ⟨h0, h00, h5⟩ := hent
      rcases h5 with ⟨h1, _⟩ | ⟨r', vs, T, h1, h2, h3, h4⟩
      · rw [hr] at h1; cases h1
      · rw [hr] at h1; cases h1
        rw [hc2 h]
        exact arr_reads (.inr hr) h2 (h4.mono (fun _ h => .inl h) fun _ _ => rfl) h0 h00
  have hg : Goes σ ⟨σ.E, σ.mem.set b (.froz τ xs), σ.w, fun r => σ.S r ∨ σ.E.β b = some r⟩ := by
    refine ⟨fun r h => .inl h, fun _ _ => rfl, by simp, fun b' hb' => ?_⟩
    by_cases hbb : b' = b
    · subst hbb
      have hset : blkAt (σ.mem.set b' (.froz τ xs)) b' = .froz τ xs := by rw [blkAt_set hlt, if_pos rfl]
      unfold Turns
      rcases he with h | h
      · rw [h]
        exact .inr ⟨xs, hset, fun r hr => hread r hr _ (fun _ => rfl) (fun h' => by rw [h] at h'; cases h')⟩
      · rw [h]
        refine .inr ⟨hset, ?_⟩
        cases hr : σ.E.β b' with
        | some r => have hd := hread r hr (σ.E.κ b') (fun h' => by rw [h] at h'; cases h') (fun _ => rfl); simp only [hr] at hd; simpa using hd
        | none =>
          unfold MemAt at hent
          rw [h] at hent
          obtain ⟨h0, h00, h5⟩ := hent
          rcases h5 with ⟨h1, h2⟩ | ⟨r', vs, T, h1, _⟩
          · have : xs = [] := List.eq_nil_of_length_eq_zero (by omega)
            subst this
            rw [h2]
            exact nil_rep τ
          · rw [hr] at h1; cases h1
    · exact Turns.refl (by simp only; rw [blkAt_set hlt, if_neg hbb]) rfl rfl
  refine ⟨⟨ho.below, fun r h => .inl (ho.stab0 r h), fun r h => ?_, fun b' => ?_, fun b' r h => ?_, fun b1 b2 r h1 h2 => ?_⟩, hg⟩
  · rcases h with h | h
    · exact ho.stab r h
    · have := ho.own b r (howned r h); exact ⟨this.2.1, .inr this.1⟩
  · by_cases hbb : b' = b
    · subst hbb
      unfold MemAt; simp only; rw [blkAt_set hlt, if_pos rfl]; trivial
    · exact MemAt.keep hg (by simp only; rw [blkAt_set hlt, if_neg hbb]) rfl rfl (fun _ _ => rfl) (ho.ent b')
  · obtain ⟨h1, h2⟩ := h
    simp only at h1 h2
    rw [blkAt_set hlt] at h1
    split at h1
    · exact h1.elim
    · rename_i hne
      have hh := ho.own b' r ⟨h1, h2⟩
      refine ⟨hh.1, hh.2.1, fun hs => ?_⟩
      rcases hs with hs | hs
      · exact hh.2.2 hs
      · exact hne (ho.inj b' b r ⟨h1, h2⟩ (howned r hs))
  · obtain ⟨h3, h4⟩ := h1
    obtain ⟨h5, h6⟩ := h2
    simp only at h3 h4 h5 h6
    rw [blkAt_set hlt] at h3 h5
    split at h3
    · exact h3.elim
    · split at h5
      · exact h5.elim
      · exact ho.inj b1 b2 r ⟨h3, h4⟩ ⟨h5, h6⟩

theorem Goes.trans {σ σ' σ'' : Sit} (h : Goes σ σ') (h' : Goes σ' σ'') : Goes σ σ'' := by
  refine ⟨fun r hr => h'.stab r (h.stab r hr), fun r hr => (h'.heap r (h.stab r hr)).trans (h.heap r hr), Nat.le_trans h.len h'.len, fun b hb => ?_⟩
  have t1 := h.turns b hb
  have t2 := h'.turns b (Nat.lt_of_lt_of_le hb h.len)
  unfold Turns at t1 t2 ⊢
  cases e : blkAt σ.mem b with
  | gone => rw [e] at t1; simp only at t1; rw [t1] at t2; exact t2
  | raw cs =>
    rw [e] at t1; simp only at t1
    obtain ⟨h1, cs', h2⟩ := t1
    rw [h2] at t2
    exact ⟨t2.1.trans h1, t2.2⟩
  | arr τ xs =>
    rw [e] at t1; simp only at t1
    rcases t1 with ⟨h1, xs', h2, h3⟩ | ⟨xs', h1, h2⟩
    · rw [h2] at t2
      rcases t2 with ⟨g1, xs'', g2, g3⟩ | ⟨xs'', g1, g2⟩
      · exact .inl ⟨g1.trans h1, xs'', g2, g3.trans h3⟩
      · refine .inr ⟨xs'', g1, fun r hr => ?_⟩
        have := g2 r (h1.trans hr)
        rw [h3] at this
        exact this
    · rw [h1] at t2
      exact .inr ⟨xs', t2, fun r hr => (h2 r hr).mono h'.stab h'.heap⟩
  | acc τ xs =>
    rw [e] at t1; simp only at t1
    rcases t1 with ⟨h1, h2, h3⟩ | ⟨h1, h2⟩
    · rw [h3] at t2
      rcases t2 with ⟨g1, g2, g3⟩ | ⟨g1, g2⟩
      · exact .inl ⟨g1.trans h1, g2.trans h2, g3⟩
      · refine .inr ⟨g1, ?_⟩
        rw [h1, h2] at g2
        exact g2
    · rw [h1] at t2
      exact .inr ⟨t2, h2.mono h'.stab h'.heap⟩
  | froz τ xs => rw [e] at t1; simp only at t1; rw [t1] at t2; exact t2

end Vx
