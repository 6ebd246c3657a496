/- Rows: made, cut, indexed. -/
import Derived.Test.YtkkdblemeoehpaaDoorVxOps6
namespace Vx
open Go Go.RowKit

variable {C : Cfg} {base : World} {S0 : Nat → Prop} {σ : Sit} {s : St} {a : Act} {ctx : List (Nat × Bool)} {o : Oper} {x : TV} {mem' : Mem}

theorem freeze1_not_own {mem : Mem} {c c' : SC} {m : Mem} (h : freeze1 mem c = (c', m)) (b : Nat) : c' ≠ .own b := by
  unfold freeze1 at h
  split at h
  · split at h <;> (cases h; simp)
  · rename_i hn
    cases h
    intro e
    exact hn b e

theorem asList_ok {τ : Shape} {c : SC} {y : Value} {xs : List (Den τ)} (hc : RepC σ c y) (hn : ∀ b, c ≠ .own b) (h : asList σ.mem τ c = some xs) : DRep σ.w σ.S (.slice τ) xs [y] := by
  unfold asList at h
  split at h
  · exact castL_rep h hc
  · cases h
    obtain ⟨rfl, _⟩ := hc
    exact nil_rep τ
  · exact absurd rfl (hn _)
  · cases h

theorem slice_of_rep {τ : Shape} {y : Value} {xs : List (Den τ)} (h : DRep σ.w σ.S (.slice τ) xs [y]) : ∃ A c, y = .slice A xs.length c ∧ xs.length ≤ c ∧ c < lim := by
  obtain ⟨A, c, h1, h2, h3, _⟩ := h
  cases h1
  exact ⟨A, c, rfl, h2, h3⟩

theorem lenOf_ok {c : SC} {y : Value} {n : Nat} (hc : RepC σ c y) (hns : ∀ str, c ≠ .v (.string str)) (h : lenOf σ.mem c = some n) : ∃ A k, y = .slice A n k := by
  unfold lenOf at h
  split at h
  · cases h
    obtain ⟨A, k, h1, _⟩ := hc
    cases h1
    exact ⟨A, k, rfl⟩
  · cases h
    obtain ⟨rfl, _⟩ := hc
    exact ⟨none, 0, rfl⟩
  · exact absurd rfl (hns _)
  · obtain ⟨_, _, hm⟩ := hc
    split at h
    · rename_i e
      cases h
      rw [e] at hm
      obtain ⟨r, _, rfl⟩ := hm
      exact ⟨_, _, rfl⟩
    · rename_i e
      cases h
      rw [e] at hm
      exact ⟨_, _, hm⟩
    · rename_i e
      cases h
      rw [e] at hm
      obtain ⟨A, k, h1, _⟩ := hm
      cases h1
      exact ⟨A, k, rfl⟩
    · cases h
  · cases h

theorem lenOf_lim (ho : Ok base S0 σ) {c : SC} {y : Value} {n : Nat} (hc : RepC σ c y) (h : lenOf σ.mem c = some n) : n < lim := by
  unfold lenOf at h
  split at h
  · cases h
    obtain ⟨A, k, h1, h2, h3, _⟩ := hc
    exact Nat.lt_of_le_of_lt h2 h3
  · cases h; unfold lim; omega
  · cases h; exact hc.2
  · rename_i b
    obtain ⟨_, _, hm⟩ := hc
    have he := ho.ent b
    unfold MemAt at he
    split at h
    · rename_i e
      cases h
      rw [e] at he
      exact he.1
    · rename_i e
      cases h
      rw [e] at he
      exact Nat.lt_of_le_of_lt he.1 he.2.1
    · rename_i e
      cases h
      rw [e] at hm
      obtain ⟨A, k, h1, h2, h3, _⟩ := hm
      exact Nat.lt_of_le_of_lt h2 h3
    · cases h
  · cases h

theorem DRep.cut {w : World} {S : Nat → Prop} {τ : Shape} {xs : List (Den τ)} {A : Option Addr} {c l h : Nat} (hd : DRep w S (.slice τ) xs [.slice A xs.length c]) (h1 : l ≤ h) (h2 : h ≤ xs.length) (hc : xs.length ≤ c) (hlim : c < lim) :
    DRep w S (.slice τ) ((xs.take h).drop l) [.slice (if c = l then A else A.map (·.add (l * τ.width))) (h - l) (c - l)] := by
  obtain ⟨A', c', e, _, _, h4⟩ := hd
  cases e
  have hlen : ((xs.take h).drop l).length = h - l := by simp; omega
  refine ⟨_, c - l, by rw [hlen], by omega, by omega, fun hne => ?_⟩
  have hlt : l < h := by
    rcases Nat.lt_or_ge l h with h' | h'
    · exact h'
    · exact absurd (List.eq_nil_of_length_eq_zero (by omega)) hne
  have hxs : xs ≠ [] := by intro e; subst e; simp at h2; omega
  obtain ⟨r, o, vs, T, fz, e1, e2, e3, e4⟩ := h4 hxs
  refine ⟨r, o + l * τ.width, vs, T, fz, ?_, e2, e3, fun i x hi => ?_⟩
  · rw [if_neg (by omega), e1]
    simp [addr_add]
  · rw [List.getElem?_drop, List.getElem?_take] at hi
    split at hi
    · obtain ⟨ds, d1, d2⟩ := e4 _ _ hi
      refine ⟨ds, d1, fun j d hj => ?_⟩
      have := d2 j d hj
      rw [Nat.add_mul] at this
      rw [show o + l * τ.width + i * τ.width + j = o + (l * τ.width + i * τ.width) + j by omega]
      exact this
    · cases hi

theorem op_slice (ho : Ok base S0 σ) (hr : RelT σ s a) (hx : CtxOk a ctx) {T : TypeId} {y : Operand} {lo hi mx : Option Operand} (hop : o.op = .slice T y lo hi mx) (h : plainOp C s ctx o = some (.ok true x mem')) : Good C base S0 id σ a o x mem' := by
  unfold plainOp at h
  rw [hop] at h
  simp only at h
  split at h
  · rename_i e c hT ec
    split at h
    · rename_i τ eτ
      cases hf : freeze1 s.mem c with
      | mk c' m1 =>
        rw [hf] at h
        simp only at h
        rw [← hr.mem] at hf
        obtain ⟨σ1, a1, a2, a3, a4, a5, a6⟩ := freeze1_ok ho hf
        split at h
        · rename_i xs exs
          split at h
          · rename_i l hh el eh
            simp only [Option.some.injEq, Res.ok.injEq, Bool.and_eq_true, decide_eq_true_eq] at h
            obtain ⟨⟨⟨g1, g2⟩, g3⟩, rfl, rfl⟩ := h
            have hd := asList_ok (a6 _ (ev1_ok hr hx ec)) (freeze1_not_own hf) (by rw [a1]; exact exs)
            obtain ⟨A, k, hy, hk, hklim⟩ := slice_of_rep hd
            rw [hy] at hd
            have hcut := hd.cut (l := l.toNat) (h := hh.toNat) (by omega) (by omega) hk hklim
            have hi' : ∃ i, C.P.info? e = some i := by
              have : shapeOf C.P 12 e = some τ := by
                unfold elemSh at eτ
                split at eτ
                · rename_i τ' e'
                  cases hb : Nat.beq (C.P.cellsOf e) τ'.width with
                  | false => rw [hb] at eτ; cases eτ
                  | true => rw [hb] at eτ; cases eτ; exact e'
                · cases eτ
              unfold shapeOf at this
              cases hu : C.P.underlying e with
              | none => rw [hu] at this; cases this
              | some d => exact info_of_und hu
            have hw := elemSh_ok eτ
            refine good_at (σ' := σ1) (v := .slice (if k = l.toNat then A else A.map (·.add (l.toNat * τ.width))) (hh.toNat - l.toNat) (k - l.toNat)) ?_ a4 a5.moves a1 hcut
            simp only [execOp, hop, hy, Option.map_none]
            refine run_v ?_
            rw [a2]
            unfold Instr.sliceAt
            simp only [Sem.run_bind, run_und hT, Result.andThen_ok]
            unfold Instr.slice
            simp only [Sem.run_bind, run_und hT, Result.andThen_ok]
            have hbH : (match hi.map a.eval with | some v => Instr.sliceBound v k .sliceAcap | none => pure xs.length : Sem Nat).run C.P σ.w = .ok hh.toNat σ.w := by
              cases hi with
              | none => simp only [Option.map_none, Sem.run_pure]; simp at eh; subst eh; rfl
              | some q =>
                simp only at eh
                obtain ⟨kk, hq, _⟩ := intArg_ok hr hx eh
                simp only [Option.map_some, hq, Instr.sliceBound, asIntOf, Sem.run_bind, Sem.run_pure, Result.andThen_ok]
                rw [if_pos ⟨by omega, by omega⟩]
                rfl
            have hbL : (match lo.map a.eval with | some v => Instr.sliceBound v hh.toNat (if (none : Option Value).isSome then .slice3C else .sliceB) | none => pure 0 : Sem Nat).run C.P σ.w = .ok l.toNat σ.w := by
              cases lo with
              | none => simp only [Option.map_none, Sem.run_pure]; simp at el; subst el; rfl
              | some q =>
                simp only at el
                obtain ⟨kk, hq, _⟩ := intArg_ok hr hx el
                simp only [Option.map_some, hq, Instr.sliceBound, asIntOf, Sem.run_bind, Sem.run_pure, Result.andThen_ok]
                rw [if_pos ⟨by omega, by omega⟩]
                rfl
            have hb : (Instr.sliceBounds true xs.length k (lo.map a.eval) (hi.map a.eval) none).run C.P σ.w = .ok (l.toNat, hh.toNat, k) σ.w := by
              cases hhi : hi.map a.eval <;> cases hlo : lo.map a.eval <;> rw [hhi] at hbH <;> rw [hlo] at hbL <;>
                simp only [Sem.run_pure, Result.ok.injEq, and_true, Option.isSome_none, Bool.false_eq_true, if_false] at hbH hbL <;> unfold Instr.sliceBounds
              · simp [hbH, ← hbL]
              · simp [hbH, hbL]
              · simp [hbH, ← hbL]
              · simp [hbH, hbL]
            rw [hb]
            simp only [Result.andThen_ok, run_size hi', hw]
            simp
          · cases h
        · cases h
    · cases h
  · cases h

end Vx
