/- What is kept of a state at a loop's head or exit. -/
import Derived.Test.YtkkdblemeoehpaaDoorVxDraw5
namespace Vx
open Go Go.RowKit

/-- a block as it was, or forgotten, or its cells known less well -/
def RelB (e e' : Blk) : Prop :=
  match e' with
  | .gone => True
  | .raw _ => ∃ cs, e = .raw cs
  | .arr τ xs => e = .arr τ xs
  | .acc τ xs => e = .acc τ xs
  | .froz τ xs => e = .froz τ xs

structure Cut (σ σ' : Sit) : Prop where
  E : σ'.E = σ.E
  w : σ'.w = σ.w
  S : σ'.S = σ.S
  rel : ∀ b, RelB (blkAt σ.mem b) (blkAt σ'.mem b)

variable {σ σ' : Sit}

theorem cast_same {τ' τ : Shape} {xs : List (Den τ')} {ys : List (Den τ)} (h : castL τ' τ xs = some ys) : (⟨τ', xs⟩ : Sigma fun τ => List (Den τ)) = ⟨τ, ys⟩ := by
  obtain ⟨rfl, rfl⟩ := castL_eq h; rfl

theorem readC_ok (hc : Cut σ σ') : ∀ {c : PC} {z : SC} {d : c.D} {y : Value}, readC σ.mem σ'.mem.length c z = some d → RepC σ z y → RepC σ' (buildC c d) y
  | .v k, z, d, y, h, hz => by
    simp only [readC] at h
    split at h
    · split at h
      · rename_i k' n hk; subst hk; cases h; exact hz
      · cases h
    · cases h
  | .bool, z, d, y, h, hz => by
    simp only [readC] at h
    split at h
    · cases h; exact hz
    · cases h
  | .str, z, d, y, h, hz => by
    simp only [readC] at h
    split at h
    · cases h; exact hz
    · cases h
  | .fnv, z, d, y, h, hz => by
    simp only [readC] at h
    split at h
    · cases h
      obtain ⟨rfl, _⟩ := hz
      exact (rfl : [Value.nilFunc] = _)
    · cases h
      obtain ⟨_, _, h1⟩ := hz
      rcases h1 with ⟨p, hp, _⟩ | ⟨rs, h1, rfl⟩
      · simp at hp
      · simp [buildC, RepC, DRep]
    · cases h; exact hz
    · cases h
  | .sl τ, z, d, y, h, hz => by
    have key : ∀ {τ' : Shape} {xs : List (Den τ')}, castL τ' τ xs = some d → DRep σ.w σ.S (.slice τ') xs [y] → DRep σ'.w σ'.S (.slice τ) d [y] := fun hcast hd => by
      have := castL_rep hcast hd
      rw [hc.w, hc.S]; exact this
    simp only [readC] at h
    split at h
    · exact key h hz
    · cases h
      obtain ⟨rfl, _⟩ := hz
      exact nil_rep τ
    · split at h
      · rename_i b' τ' xs e
        obtain ⟨_, _, hz⟩ := hz
        rw [e] at hz
        exact key h hz
      · cases h
    · cases h
  | .fl k, z, d, y, h, hz => by
    simp only [readC] at h
    split at h
    · split at h
      · rename_i k' o hk; subst hk; cases h; exact hz
      · cases h
    · cases h
  | .own b, z, d, y, h, hz => by
    simp only [readC] at h
    split at h
    · rename_i b'
      obtain ⟨hb, _⟩ := cond_some h
      simp only [Bool.and_eq_true] at hb
      have : b' = b := Nat.eq_of_beq_eq_true hb.1
      subst this
      obtain ⟨h1, h2, h3⟩ := hz
      refine ⟨by simpa using hb.2, h2, ?_⟩
      have hr := hc.rel b'
      unfold RelB at hr
      cases e : blkAt σ'.mem b' with
      | gone => trivial
      | raw cs => trivial
      | arr τ xs => rw [e] at hr; rw [hr] at h3; simp only at h3 ⊢; rw [hc.E]; exact h3
      | acc τ xs => rw [e] at hr; rw [hr] at h3; simp only at h3 ⊢; rw [hc.E]; exact h3
      | froz τ xs => rw [e] at hr; rw [hr] at h3; simp only at h3 ⊢; rw [hc.w, hc.S]; exact h3
    · cases h
  | .ptr b off, z, d, y, h, hz => by
    simp only [readC] at h
    split at h
    · rename_i b' off'
      obtain ⟨hb, _⟩ := cond_some h
      simp only [Bool.and_eq_true] at hb
      have : b' = b := Nat.eq_of_beq_eq_true hb.1.1
      subst this
      have : off' = off := Nat.eq_of_beq_eq_true hb.1.2
      subst this
      obtain ⟨h1, h2, h3⟩ := hz
      refine ⟨by simpa using hb.2, h2, ?_⟩
      have hr := hc.rel b'
      unfold RelB at hr
      cases e : blkAt σ'.mem b' with
      | gone => trivial
      | raw cs => rw [e] at hr; obtain ⟨cs', hr⟩ := hr; rw [hr] at h3; simp only at h3 ⊢; rw [hc.E]; exact h3
      | arr τ xs => rw [e] at hr; rw [hr] at h3; simp only at h3 ⊢; rw [hc.E]; exact h3
      | acc τ xs => trivial
      | froz τ xs => trivial
    · cases h
  | .gptr g, z, d, y, h, hz => by
    simp only [readC] at h
    split at h
    · rename_i g'
      have : g' = g := Nat.eq_of_beq_eq_true (cond_some h).1
      subst this
      exact hz
    · cases h
  | .fn f, z, d, y, h, hz => by
    simp only [readC] at h
    split at h
    · rename_i f'
      have : f' = f := Nat.eq_of_beq_eq_true (cond_some h).1
      subst this
      obtain ⟨_, h2, h1⟩ := hz
      rcases h1 with ⟨p, hp, _⟩ | ⟨rs, h1, rfl⟩
      · simp at hp
      · exact ⟨by simp, h2, .inr ⟨rs, h1, rfl⟩⟩
    · cases h
  | .nilp, z, d, y, h, hz => by
    simp only [readC] at h
    split at h
    · cases h; exact hz
    · cases h
  | .undef, z, d, y, h, hz => hz.scalar

theorem readCs_ok (hc : Cut σ σ') : ∀ {l : List PC} {zs : List SC} {d : PCs l} {ys : List Value}, readCs σ.mem σ'.mem.length l zs = some d → All2 (RepC σ) zs ys → All2 (RepC σ') (buildCs l d) ys
  | [], [], _, _, _, .nil => .nil
  | [], _ :: _, _, _, h, _ => by simp [readCs] at h
  | _ :: _, [], _, _, h, _ => by simp [readCs] at h
  | c :: r, z :: zs, d, _, h, .cons h1 h2 => by
    simp only [readCs] at h
    split at h
    · rename_i e1 e2
      cases h
      exact .cons (readC_ok hc e1 h1) (readCs_ok hc e2 h2)
    · cases h

theorem readV_ok (hc : Cut σ σ') {v : PV} {x : TV} {d : v.D} {y : Value} (h : readV σ.mem σ'.mem.length v x = some d) (hx : RepT σ x y) : RepV σ' (buildV v d) y := by
  unfold readV at h
  split at h
  · exact readC_ok hc h hx
  · obtain ⟨ys, e, ha⟩ := hx
    exact ⟨ys, e, readCs_ok hc h ha⟩
  · cases h

theorem readTm_ok (hc : Cut σ σ') {s : St} (hm : σ.mem = s.mem) {ys : Nat → Value} (ht : ∀ t, RepT σ (getT s.tm t) (ys t)) : ∀ {l : List (Nat × PV)} {d : PTm l}, readTm s σ'.mem.length l = some d → ∀ t, RepT σ' (getT (buildTm l d) t) (ys t)
  | [], _, _, t => trivial
  | (n, v) :: r, d, h, t => by
    simp only [readTm] at h
    split at h
    · rename_i e1 e2
      cases h
      simp only [buildTm, getT]
      cases hb : Nat.beq n t with
      | true =>
        have := Nat.eq_of_beq_eq_true hb
        subst this
        rw [← hm] at e1
        exact readV_ok hc e1 (ht n)
      | false => exact readTm_ok hc hm ht e2 t
    · cases h

theorem buildMem_len : ∀ {l : List PB} {d : PMem l}, (buildMem l d).length = l.length
  | [], _ => rfl
  | _ :: r, d => by simp [buildMem, buildMem_len]

theorem readMem_get {mem : Mem} {len : Nat} : ∀ {l : List PB} {zs : List Blk} {d : PMem l}, readMem mem len l zs = some d → ∀ b, b < l.length → ∃ (p : PB) (z : Blk) (x : p.D), zs[b]? = some z ∧ readB mem len p z = some x ∧ (buildMem l d)[b]? = some (buildB p x)
  | [], _, _, _, b, hb => by simp at hb
  | p :: r, [], _, h, b, hb => by simp [readMem] at h
  | p :: r, z :: zs, d, h, b, hb => by
    simp only [readMem] at h
    split at h
    · rename_i x xs e1 e2
      cases h
      cases b with
      | zero => exact ⟨p, z, x, rfl, e1, rfl⟩
      | succ b =>
        obtain ⟨p', z', x', h1, h2, h3⟩ := readMem_get e2 b (by simpa using hb)
        exact ⟨p', z', x', h1, h2, h3⟩
    · cases h

theorem readB_rel {mem : Mem} {len : Nat} {p : PB} {z : Blk} {x : p.D} (h : readB mem len p z = some x) : RelB z (buildB p x) := by
  unfold readB at h
  split at h
  · trivial
  · exact ⟨_, rfl⟩
  · have := cast_same h; simp only [Sigma.mk.injEq] at this; obtain ⟨rfl, h2⟩ := this; cases h2; rfl
  · have := cast_same h; simp only [Sigma.mk.injEq] at this; obtain ⟨rfl, h2⟩ := this; cases h2; rfl
  · have := cast_same h; simp only [Sigma.mk.injEq] at this; obtain ⟨rfl, h2⟩ := this; cases h2; rfl
  · cases h

theorem readPat_ok {base : World} {S0 : Nat → Prop} {s : St} {a : Act} (ho : Ok base S0 σ) (hr : RelT σ s a) {p : Pat} {x : p.D} (h : readPat p s = some x) :
    ∃ σ' : Sit, σ'.w = σ.w ∧ σ'.S = σ.S ∧ Ok base S0 σ' ∧ RelT σ' (buildPat p x) a := by
  unfold readPat at h
  obtain ⟨hb, h⟩ := cond_some h
  simp only [Bool.and_eq_true] at hb
  split at h
  · rename_i x1 x2 e1 e2
    cases h
    let σ' : Sit := { σ with mem := buildMem p.mem x2 }
    have hlen : σ'.mem.length = p.mem.length := buildMem_len
    have hat : ∀ b, b < p.mem.length → ∃ (q : PB) (x : q.D), readB σ.mem σ'.mem.length q (blkAt σ.mem b) = some x ∧ blkAt σ'.mem b = buildB q x := fun b hb => by
      obtain ⟨q, z, x, h1, h2, h3⟩ := readMem_get e2 b hb
      refine ⟨q, x, ?_, ?_⟩
      · rw [hr.mem, hlen]; unfold blkAt; rw [h1]; exact h2
      · unfold blkAt; rw [h3]; rfl
    have hout : ∀ b, ¬ b < p.mem.length → blkAt σ'.mem b = .gone := fun b hb => blkAt_ge (by rw [hlen]; omega)
    have hc : Cut σ σ' := ⟨rfl, rfl, rfl, fun b => by
      by_cases hb : b < p.mem.length
      · obtain ⟨q, x, h1, h2⟩ := hat b hb
        rw [h2]; exact readB_rel h1
      · rw [hout b hb]; trivial⟩
    have howned : ∀ b r, σ'.owned b r → σ.owned b r := fun b r h => by
      obtain ⟨h1, h2⟩ := h
      refine ⟨?_, h2⟩
      have hrel := hc.rel b
      unfold RelB at hrel
      cases e : blkAt σ'.mem b with
      | gone => rw [e] at h1; exact h1.elim
      | raw cs => rw [e] at hrel; obtain ⟨cs', h⟩ := hrel; rw [h]; trivial
      | arr τ xs => rw [e] at hrel; rw [hrel]; trivial
      | acc τ xs => rw [e] at hrel; rw [hrel]; trivial
      | froz τ xs => rw [e] at h1; exact h1.elim
    refine ⟨σ', rfl, rfl, ⟨ho.below, ho.stab0, ho.stab, fun b => ?_, fun b r h => ho.own b r (howned b r h), fun b b' r h h' => ho.inj b b' r (howned b r h) (howned b' r h')⟩, ?_⟩
    · have hent := ho.ent b
      unfold MemAt at hent ⊢
      have hrel := hc.rel b
      unfold RelB at hrel
      cases e : blkAt σ'.mem b with
      | gone => trivial
      | froz τ xs => trivial
      | arr τ xs => rw [e] at hrel; rw [hrel] at hent; exact hent
      | acc τ xs => rw [e] at hrel; rw [hrel] at hent; exact hent
      | raw cs =>
        have hb : b < p.mem.length := Classical.byContradiction fun hb => by rw [hout b hb] at e; cases e
        obtain ⟨q, x, h1, h2⟩ := hat b hb
        rw [e] at h2
        rw [e] at hrel
        obtain ⟨cs', hcs⟩ := hrel
        rw [hcs] at hent h1
        obtain ⟨r, vs, T, g1, g2, g3⟩ := hent
        cases q with
        | raw l =>
          simp only [readB] at h1
          simp only [buildB, Blk.raw.injEq] at h2
          subst h2
          exact ⟨r, vs, T, g1, g2, readCs_ok hc h1 g3⟩
        | gone => simp [buildB] at h2
        | arr τ => simp [buildB] at h2
        | acc τ => simp [buildB] at h2
        | froz τ => simp [buildB] at h2
    · refine ⟨?_, hr.defers, rfl, fun t => ?_, fun d g q y hm => by simp [buildPat] at hm⟩
      · rw [hr.size]; exact Nat.eq_of_beq_eq_true hb.1
      · rw [← hlen] at e1
        exact readTm_ok hc hr.mem hr.tm e1 t
  · cases h

theorem readPat_m0 {p : Pat} {s : St} {x : p.D} (h : readPat p s = some x) : s.m0 = 0 := by
  unfold readPat at h
  have := (cond_some h).1
  simp only [Bool.and_eq_true] at this
  exact Nat.eq_of_beq_eq_true this.2

theorem accUp_ok {base : World} {S0 : Nat → Prop} {a : Act} : ∀ (l : List (Nat × Shape)) {σ : Sit} {s : St}, Ok base S0 σ → RelT σ s a → s.cs = [] → ∃ σ' : Sit, σ'.w = σ.w ∧ Ok base S0 σ' ∧ Goes σ σ' ∧ RelT σ' (accUp l s) a ∧ (accUp l s).m0 = s.m0
  | [], σ, s, ho, hr, _ => ⟨σ, rfl, ho, Goes.refl σ, hr, rfl⟩
  | (t, τ) :: r, σ, s, ho, hr, hcs => by
    simp only [accUp]
    split
    · rename_i e
      have hg := name_goes σ (.acc τ [])
      have hr' : RelT (σ.name (.acc τ [])) { s with tm := (t, .val (.one (.own s.mem.length))) :: s.tm, mem := s.mem ++ [.acc τ []] } a := by
        refine ⟨hr.size, hr.defers, by simp [Sit.name, hr.mem], fun t' => ?_, fun d g p x hm => by rw [hcs] at hm; simp at hm⟩
        simp only [getT]
        cases hb : Nat.beq t t' with
        | false => exact hg.repT (hr.tm t')
        | true =>
          have := Nat.eq_of_beq_eq_true hb
          subst this
          have h1 := hr.tm t
          rw [e] at h1
          obtain ⟨h1, _⟩ := h1
          rw [h1]
          refine ⟨by simp [Sit.name, hr.mem], trivial, ?_⟩
          rw [← hr.mem]
          simp only [Sit.name, blkAt_append_at]
          simp [upd]
      obtain ⟨σ', h1, h2, h3, h4, h5⟩ := accUp_ok r (name_ok ho τ) hr' hcs
      exact ⟨σ', h1, h2, hg.trans h3, h4, h5⟩
    · exact accUp_ok r ho hr hcs

/-- behind a cut where nobody else's names are about, all goes on -/
theorem adv_cut {σ0 σ σ' : Sit} (hA : Adv σ0 σ) (h0 : σ0.mem.length = 0) (hw : σ'.w = σ.w) (hS : σ'.S = σ.S) : Adv σ0 σ' := by
  have hnil : σ0.mem = [] := List.eq_nil_of_length_eq_zero h0
  refine ⟨fun r hr => by rw [hS]; exact hA.stab r hr, fun r hr => by rw [hw]; exact hA.heap r hr, fun c y hc => ?_, by omega, fun b hb => by omega⟩
  have stab := hA.stab
  have heap := hA.heap
  rw [← hw] at heap
  rw [← hS] at stab
  have hna : ∀ b, c ≠ .own b := fun b e => by subst e; have := hc.1; omega
  rw [dropAcc_other hna]
  cases c with
  | undef => exact hc
  | v x => exact hc
  | fl k o => exact hc
  | sl τ xs => exact DRep.mono stab heap hc
  | own b => exact absurd rfl (hna b)
  | ptr b off => have := hc.1; omega
  | eptr b i off => have := hc.1; omega
  | iptr τ x off =>
    obtain ⟨r, o, vs, T, fz, ds, h1, h2, h3, h4, h5⟩ := hc
    exact ⟨r, o, vs, T, fz, ds, h1, stab r h2, (heap r h2).trans h3, h4.mono stab heap, h5⟩
  | gptr g => exact hc
  | fnv o => exact DRep.mono stab heap hc
  | fn f caps =>
    obtain ⟨h1, h2, h3⟩ := hc
    cases caps with
    | cons p r => have := h1 p (by simp); omega
    | nil =>
      refine ⟨by simp, h2, ?_⟩
      rcases h3 with ⟨p, hp, _⟩ | ⟨rs, g1, g2⟩
      · simp at hp
      · exact .inr ⟨rs, by simpa using g1, g2⟩

end Vx
