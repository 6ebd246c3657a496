/- One operation of a region. -/
import Derived.Test.YtkkdblemeoehpaaDoorVxCall4
namespace Vx
open Go Go.RowKit

/-- how a situation goes on -/
structure Adv (σ σ' : Sit) : Prop where
  stab : ∀ r, σ.S r → σ'.S r
  heap : ∀ r, σ.S r → σ'.w.heap[r]? = σ.w.heap[r]?
  rep : ∀ c y, RepC σ c y → RepC σ' (dropAcc σ.mem c) y
  len : σ.mem.length ≤ σ'.mem.length
  noacc : ∀ b, b < σ.mem.length → accB (blkAt σ'.mem b) → accB (blkAt σ.mem b)

theorem dropAcc_own {mem : Mem} {b : Nat} : dropAcc mem (.own b) = .undef ∧ accB (blkAt mem b) ∨ dropAcc mem (.own b) = .own b ∧ ¬ accB (blkAt mem b) := by
  simp only [dropAcc]
  cases blkAt mem b with
  | acc _ _ => exact .inl ⟨rfl, trivial⟩
  | _ => exact .inr ⟨rfl, fun h => h⟩

theorem dropAcc_other {mem : Mem} {c : SC} (h : ∀ b, c ≠ .own b) : dropAcc mem c = c := by
  cases c with
  | own b => exact absurd rfl (h b)
  | _ => rfl

theorem Adv.refl (σ : Sit) : Adv σ σ := by
  refine ⟨fun _ h => h, fun _ _ => rfl, fun c y h => ?_, Nat.le_refl _, fun _ _ h => h⟩
  cases c with
  | own b =>
    rcases dropAcc_own (mem := σ.mem) (b := b) with ⟨e, _⟩ | ⟨e, _⟩
    · rw [e]; exact h.2.1
    · rw [e]; exact h
  | _ => exact h

theorem Adv.trans {σ σ' σ'' : Sit} (h : Adv σ σ') (h' : Adv σ' σ'') : Adv σ σ'' := by
  refine ⟨fun r hr => h'.stab r (h.stab r hr), fun r hr => (h'.heap r (h.stab r hr)).trans (h.heap r hr), fun c y hc => ?_, Nat.le_trans h.len h'.len, fun b hb ha => h.noacc b hb (h'.noacc b (Nat.lt_of_lt_of_le hb h.len) ha)⟩
  have h1 := h.rep c y hc
  have h2 := h'.rep _ y h1
  by_cases hown : ∃ b, c = .own b
  · obtain ⟨b, rfl⟩ := hown
    rcases dropAcc_own (mem := σ.mem) (b := b) with ⟨e, _⟩ | ⟨e, hn⟩
    · rw [e]; exact hc.2.1
    · rw [e] at h2 ⊢
      rcases dropAcc_own (mem := σ'.mem) (b := b) with ⟨e', ha⟩ | ⟨e', _⟩
      · exact absurd (h.noacc b hc.1 ha) hn
      · rw [e'] at h2; exact h2
  · have hne : ∀ b, c ≠ .own b := fun b e => hown ⟨b, e⟩
    rw [dropAcc_other hne] at h2 ⊢
    rw [dropAcc_other hne] at h2
    exact h2

theorem Moves.adv_id {σ σ' : Sit} (h : Moves id σ σ') : Adv σ σ' := by
  refine ⟨h.stab, h.heap, fun c y hc => ?_, h.len, h.noacc⟩
  have h1 := h.rep c y hc
  cases c with
  | own b =>
    rcases dropAcc_own (mem := σ.mem) (b := b) with ⟨e, _⟩ | ⟨e, _⟩
    · rw [e]; exact hc.2.1
    · rw [e]; exact h1
  | _ => exact h1

theorem Moves.adv_own {σ σ' : Sit} {b : Nat} (h : Moves (dropOwn b) σ σ') (hb : accB (blkAt σ'.mem b)) : Adv σ σ' := by
  refine ⟨h.stab, h.heap, fun c y hc => ?_, h.len, h.noacc⟩
  have h1 := h.rep c y hc
  cases c with
  | own b' =>
    rcases dropAcc_own (mem := σ.mem) (b := b') with ⟨e, _⟩ | ⟨e, hn⟩
    · rw [e]; exact hc.2.1
    · rw [e]
      simp only [dropOwn] at h1
      cases hbb : Nat.beq b b' with
      | true =>
        have : b = b' := Nat.eq_of_beq_eq_true hbb
        subst this
        exact absurd (h.noacc b hc.1 hb) hn
      | false => rw [hbb] at h1; exact h1
  | _ => exact h1

theorem Goes.adv {σ σ' : Sit} (h : Goes σ σ') : Adv σ σ' := h.moves.adv_id

theorem RepT.drop {σ σ' : Sit} {f : SC → SC} (hm : ∀ c y, RepC σ c y → RepC σ' (f c) y) {fT : TV → TV} (hf : ∀ x, fT x = match x with
    | .un => .un
    | .val (.one c) => .val (.one (f c))
    | .val (.agg cs) => .val (.agg (cs.map f))
    | .tup l => .tup (l.map fun v => match v with | .one c => .one (f c) | .agg cs => .agg (cs.map f))) {x : TV} {y : Value} (h : RepT σ x y) : RepT σ' (fT x) y := by
  rw [hf]
  have hv : ∀ v y, RepV σ v y → RepV σ' (match v with | .one c => .one (f c) | .agg cs => .agg (cs.map f)) y := fun v y hv => by
    cases v with
    | one c => exact hm c y hv
    | agg cs => obtain ⟨ys, e, ha⟩ := hv; exact ⟨ys, e, ha.mapL f hm⟩
  cases x with
  | un => trivial
  | val v => cases v with
    | one c => exact hv (.one c) y h
    | agg cs => exact hv (.agg cs) y h
  | tup l =>
    obtain ⟨h1, ys, e, ha⟩ := h
    exact ⟨by simpa using h1, ys, e, ha.mapL _ hv⟩

theorem RepT.keep {σ σ' : Sit} (hm : ∀ c y, RepC σ c y → RepC σ' (id c) y) {x : TV} {y : Value} (h : RepT σ x y) : RepT σ' x y := by
  have hv : ∀ v y, RepV σ v y → RepV σ' v y := fun v y hv => by
    cases v with
    | one c => exact hm c y hv
    | agg cs => obtain ⟨ys, e, ha⟩ := hv; exact ⟨ys, e, ha.mono hm⟩
  cases x with
  | un => trivial
  | val v => exact hv v y h
  | tup l =>
    obtain ⟨h1, ys, e, ha⟩ := h
    exact ⟨h1, ys, e, ha.mono hv⟩

theorem dropOwnT_eq (b : Nat) (x : TV) : dropOwnT b x = match x with
    | .un => .un
    | .val (.one c) => .val (.one (dropOwn b c))
    | .val (.agg cs) => .val (.agg (cs.map (dropOwn b)))
    | .tup l => .tup (l.map fun v => match v with | .one c => .one (dropOwn b c) | .agg cs => .agg (cs.map (dropOwn b))) := by
  cases x with
  | un => rfl
  | val v => cases v <;> rfl
  | tup l => simp only [dropOwnT]; congr 1

theorem dropAccT_eq (m : Mem) (x : TV) : dropAccT m x = match x with
    | .un => .un
    | .val (.one c) => .val (.one (dropAcc m c))
    | .val (.agg cs) => .val (.agg (cs.map (dropAcc m)))
    | .tup l => .tup (l.map fun v => match v with | .one c => .one (dropAcc m c) | .agg cs => .agg (cs.map (dropAcc m))) := by
  cases x with
  | un => rfl
  | val v => cases v <;> rfl
  | tup l => simp only [dropAccT]; congr 1

theorem getT_map {g : TV → TV} (hg : g .un = .un) : ∀ (tm : List (Nat × TV)) (t : Nat), getT (tm.map fun p => (p.1, g p.2)) t = g (getT tm t)
  | [], t => by simp [getT, hg]
  | (n, x) :: r, t => by
    simp only [List.map_cons, getT]
    cases Nat.beq n t with
    | true => rfl
    | false => exact getT_map hg r t

theorem getD_put {a : Act} {d : Nat} {v : Value} (hd : d < a.tmps.size) (t : Nat) : (a.put (some d) v).tmps.getD t undef = if t = d then v else a.tmps.getD t undef := by
  simp only [Act.put]
  rw [Array.getD_eq_getD_getElem?, Array.getD_eq_getD_getElem?]
  by_cases h : t = d
  · subst h; rw [Array.getElem?_setIfInBounds_self_of_lt hd]; simp
  · rw [Array.getElem?_setIfInBounds_ne (fun e => h e.symm), if_neg h]

theorem noTag_spec : ∀ {cs : List (Nat × Nat × Bool × TV)} {d : Nat}, noTag d cs = true → ∀ e g p x, (e, g, p, x) ∈ cs → e ≠ d ∧ g ≠ d
  | [], _, _, _, _, _, _, h => by simp at h
  | (e', g', p', x') :: r, d, h, e, g, p, x, hm => by
    simp only [noTag, Bool.and_eq_true, Bool.not_eq_true'] at h
    rcases List.mem_cons.1 hm with h' | h'
    · cases h'
      refine ⟨fun e => ?_, fun e => ?_⟩
      · subst e; simp [Nat.beq_refl] at h
      · subst e; simp [Nat.beq_refl] at h
    · exact noTag_spec h.2 e g p x h'

variable {C : Cfg} {base : World} {S0 : Nat → Prop} {σ : Sit} {s s' : St} {a : Act} {o : Oper}

/-- the relation behind a slot's writing -/
theorem relT_put {σ' : Sit} {fT : TV → TV} (hun : fT .un = .un) (hm : ∀ x y, RepT σ x y → RepT σ' (fT x) y) (hr : RelT σ s a) {x : TV} {v : Value} (hv : RepT σ' x v) {mem : Mem} (hmem : σ'.mem = mem)
    (h : putRes { s with tm := s.tm.map fun p => (p.1, fT p.2), cs := s.cs.map fun p => (p.1, p.2.1, p.2.2.1, fT p.2.2.2) } o x mem = some s') : RelT σ' s' (a.put o.dst v) := by
  unfold putRes at h
  cases hd : o.dst with
  | none =>
    rw [hd] at h
    simp only [Option.some.injEq] at h
    subst h
    refine ⟨hr.size, hr.defers, hmem, fun t => ?_, fun d g p y hmm => ?_⟩
    · simp only [getT_map hun]; exact hm _ _ (hr.tm t)
    · obtain ⟨q, hq, he⟩ := List.mem_map.1 hmm
      cases he
      have := hr.cs _ _ _ _ hq
      exact ⟨fun h => hm _ _ (this.1 h), this.2⟩
  | some d =>
    rw [hd] at h
    simp only at h
    cases hb : (noTag d (s.cs.map fun p => (p.1, p.2.1, p.2.2.1, fT p.2.2.2)) && Nat.blt d s.n) with
    | false => rw [hb] at h; cases h
    | true =>
      rw [hb] at h
      simp only [Bool.and_eq_true] at hb
      simp only [cond_true, Option.some.injEq] at h
      subst h
      have hdl : d < a.tmps.size := by rw [hr.size]; simpa using hb.2
      refine ⟨by simp [Act.put, hr.size], hr.defers, hmem, fun t => ?_, fun e g p y hmm => ?_⟩
      · rw [getD_put hdl]
        simp only [getT]
        by_cases h : t = d
        · subst h; rw [if_pos rfl, Nat.beq_refl]; exact hv
        · rw [if_neg h]
          have : Nat.beq d t = false := by
            cases hq : Nat.beq d t with
            | false => rfl
            | true => exact absurd (Nat.eq_of_beq_eq_true hq).symm h
          rw [this, cond_false, getT_map hun]
          exact hm _ _ (hr.tm t)
      · obtain ⟨h1, h2⟩ := noTag_spec hb.1 e g p y hmm
        rw [getD_put hdl, getD_put hdl, if_neg h1, if_neg h2]
        obtain ⟨q, hq, he⟩ := List.mem_map.1 hmm
        cases he
        have := hr.cs _ _ _ _ hq
        exact ⟨fun h => hm _ _ (this.1 h), this.2⟩

theorem wanted_iff {ops : Array Oper} {gi : Nat} {p : Bool} {t : Nat} (hg : o.guard = some (gi, p)) (ht : gslot ops.toList gi = some t) : Region.wanted o (yielded ops a.tmps) = true ↔ a.tmps.getD t undef = .bool p := by
  unfold Region.wanted
  rw [hg]
  simp only [beq_iff_eq]
  unfold yielded
  have hd : (ops[gi]?).bind (·.dst) = some t := by
    unfold gslot at ht
    split at ht
    · rename_i o' e
      have : ops[gi]? = some o' := by simpa using e
      rw [this]; exact ht
    · cases ht
  rw [hd]
  simp only [Option.bind_some]
  rw [Array.getD_eq_getD_getElem?]
  cases e : a.tmps[t]? with
  | none => simp [undef]
  | some v => cases v <;> simp

/-- an operation under a guard freezes at most -/
theorem lazy_mem {ctx : List (Nat × Bool)} (ho : Ok base S0 σ) (hm : σ.mem = s.mem) {g : Bool} {x : TV} {mem : Mem} (hl : lazyOp o.op = true) (h : plainOp C s ctx o = some (.ok g x mem)) :
    ∃ σ1 : Sit, σ1.mem = mem ∧ σ1.w = σ.w ∧ Ok base S0 σ1 ∧ Goes σ σ1 := by
  have same : mem = s.mem → ∃ σ1 : Sit, σ1.mem = mem ∧ σ1.w = σ.w ∧ Ok base S0 σ1 ∧ Goes σ σ1 := fun e => ⟨σ, hm.trans e.symm, rfl, ho, Goes.refl σ⟩
  unfold plainOp at h
  cases hop : o.op with
  | alloc T => rw [hop] at hl; cases hl
  | box T y => rw [hop] at hl; cases hl
  | store T y z => rw [hop] at hl; cases hl
  | makeSlice T l c => rw [hop] at hl; cases hl
  | buildSlice T n ps =>
    rw [hop] at h
    simp only at h
    split at h
    · split at h
      · split at h
        · rename_i cs ecs
          cases hf : freezeL s.mem cs with
          | mk cs' m1 =>
            rw [hf] at h
            simp only at h
            split at h
            · rw [← hm] at hf
              obtain ⟨σ1, a1, a2, a3, a4, a5, a6⟩ := freezeL_ok ho hf
              have := res_mem (cond_some h).2
              exact ⟨σ1, a1.trans this.symm, a2, a4, a5⟩
            · cases h
        · cases h
      · cases h
    · cases h
  | slice T y lo hi mx =>
    rw [hop] at h
    simp only at h
    split at h
    · rename_i c hT ec
      split at h
      · cases hf : freeze1 s.mem c with
        | mk c' m1 =>
          rw [hf] at h
          simp only at h
          rw [← hm] at hf
          obtain ⟨σ1, a1, a2, a3, a4, a5, a6⟩ := freeze1_ok ho hf
          split at h
          · split at h
            · exact ⟨σ1, a1.trans (res_mem h).symm, a2, a4, a5⟩
            · cases h
          · cases h
      · cases h
    · cases h
  | indexAddr T y z =>
    rw [hop] at h
    simp only at h
    split at h
    · split at h
      · exact same (res_mem (cond_some (ite_some h)).2)
      · cases h
    · split at h
      · exact same (res_mem (ite_some h))
      · cases h
    · split at h
      · split at h
        · split at h
          · exact same (res_mem (ite_some h))
          · rename_i eb
            have := res_mem (ite_some h)
            rw [← hm] at eb this
            obtain ⟨σ1, a1, a2, a3, a4, a5⟩ := froze ho (.inr eb)
            exact ⟨σ1, a1.trans this.symm, a2, a4, a5⟩
          · exact same (res_mem (ite_some h))
          · cases h
        · exact same (res_mem (ite_some h))
        · cases h
      · cases h
    · cases h
  | call c =>
    rw [hop] at h hl
    simp only at h
    cases hc : c.callee with
    | value fo =>
      simp only [hc] at h
      split at h
      · rename_i f caps args ef eargs
        split at h
        · cases hf : freezeSVs s.mem args with
          | mk args' m1 =>
            rw [hf] at h
            simp only at h
            rw [← hm] at hf
            obtain ⟨σ1, a1, a2, a3, a4, a5, a6⟩ := freezeSVs_ok ho hf
            split at h
            · split at h
              · exact ⟨σ1, a1.trans (res_mem h).symm, a2, a4, a5⟩
              · cases h
            · cases h
        · have h2 := (cond_some h).2; cases h2
      · cases h
    | invoke r m => simp only [hc] at h; cases h
    | builtin b =>
      simp only [lazyOp, hc] at hl
      simp only [hc] at h
      cases b <;> simp only at h hl <;> first | (cases hl; done) | (cases h; done) | (repeat' split at h) <;> first | (cases h; done) | exact same (res_mem h) | exact same (res_mem (cond_some h).2) | exact same (res_mem (ite_some h))
  | _ =>
    rw [hop] at h
    simp only at h
    (repeat' split at h) <;> first | (cases h; done) | exact same (res_mem h) | exact same (res_mem (cond_some h).2) | exact same (res_mem (ite_some h)) | (have h2 := (cond_some h).2; cases h2)

theorem step_ok (hC : SumsOk C) (ho : Ok base S0 σ) (hr : RelT σ s a) (hG : GlobsOk C.globs σ.w σ.S) {ops : Array Oper} (h : step C ops.toList o s = some (.ok true s')) {K : Act → World → Prop} {Q : Exit → Act → World → Prop}
    (hK : ∀ a' σ', Ok base S0 σ' → Adv σ σ' → RelT σ' s' a' → K a' σ'.w) :
    if Region.wanted o (yielded ops a.tmps) then o.wp C.P a σ.w K Q else K (a.put o.dst undef) σ.w := by
  unfold step at h
  cases hg : o.guard with
  | none =>
    rw [hg] at h
    simp only at h
    rw [if_pos (by simp [Region.wanted, hg])]
    split at h
    · rename_i g x mem hp
      by_cases happ : ∃ c, o.op = .call c ∧ c.callee = .builtin .append
      · obtain ⟨c, hop, hc⟩ := happ
        have hg1 : g = true ∧ ∃ b, x = .val (.one (.own b)) ∧ putRes { s with tm := s.tm.map fun p => (p.1, dropOwnT b p.2), cs := s.cs.map fun p => (p.1, p.2.1, p.2.2.1, dropOwnT b p.2.2.2) } o x (mem.map (dropOwnB b)) = some s' := by
          have hx : ∃ b, x = .val (.one (.own b)) := by
            have hp' := hp
            unfold plainOp at hp'
            rw [hop] at hp'
            simp only [hc] at hp'
            repeat' split at hp'
            all_goals first | (cases hp'; done) | (cases hp'; exact ⟨_, rfl⟩)
          obtain ⟨b, rfl⟩ := hx
          simp only [stripFor, hop, hc] at h
          split at h
          · rename_i s'' e
            cases h
            exact ⟨rfl, b, rfl, e⟩
          · cases h
        obtain ⟨rfl, b, rfl, hput⟩ := hg1
        obtain ⟨b', e, hac, hgood⟩ := op_append ho hr (fun _ _ h => by simp at h) hop hc hp
        cases e
        refine hgood K Q fun v σ' k1 k2 k3 k4 => ?_
        have hacc : accB (blkAt σ'.mem b) := by rw [k3]; exact hac
        exact hK _ σ' k1 (k2.adv_own hacc) (relT_put (fT := dropOwnT b) rfl (fun x y hxy => RepT.drop k2.rep (dropOwnT_eq b) hxy) hr k4 k3 hput)
      · have hstrip : stripFor o x s mem = (s, mem) := by
          unfold stripFor
          split
          · rename_i c hop
            split
            · rename_i hc; exact absurd ⟨c, hop, hc⟩ happ
            · rfl
          · rfl
        rw [hstrip] at h
        simp only at h
        split at h
        · rename_i s'' e
          cases h
          refine plainOp_ok hC ho hr (fun _ _ h => by simp at h) hG (fun c hop hc => happ ⟨c, hop, hc⟩) hp K Q fun v σ' k1 k2 k3 k4 => ?_
          refine hK _ σ' k1 k2.adv_id (relT_put (fT := id) rfl (fun x y hxy => ?_) hr k4 k3 ?_)
          · exact RepT.keep k2.rep hxy
          · simpa using e
        · cases h
    · cases h
    · cases h
  | some gp =>
    obtain ⟨gi, p⟩ := gp
    rw [hg] at h
    simp only at h
    split at h
    · rename_i t d ht hd
      cases hb : (lazyOp o.op && noTag d s.cs && !(Nat.beq d t) && Nat.blt d s.n) with
      | false => rw [hb] at h; cases h
      | true =>
        rw [hb] at h
        simp only [Bool.and_eq_true, Bool.not_eq_true'] at hb
        simp only [cond_true] at h
        split at h
        · rename_i c g x mem hcv hp
          simp only [Option.some.injEq, Step.ok.injEq, Bool.or_eq_true, Bool.not_eq_true'] at h
          obtain ⟨hgc, rfl⟩ := h
          have hdl : d < a.tmps.size := by rw [hr.size]; simpa using hb.2
          have hdt : t ≠ d := fun e => by subst e; simp [Nat.beq_refl] at hb
          have hciff := cval_ok hr.tm hr.cs hcv
          have hwiff := wanted_iff (a := a) hg ht
          have hcs : ∀ {σ' : Sit} {v : Value}, (∀ x y, RepT σ x y → RepT σ' x y) → σ'.mem = mem → (a.tmps.getD t undef = .bool p → RepT σ' x v) → (a.tmps.getD t undef ≠ .bool p → v = undef) →
              RelT σ' { s with tm := (d, .un) :: s.tm, cs := (d, t, p, x) :: s.cs, mem := mem } (a.put o.dst v) := fun {σ' v} hm hmem h1 h2 => by
            rw [hd]
            refine ⟨by simp [Act.put, hr.size], hr.defers, hmem, fun q => ?_, fun e g' p' y hmm => ?_⟩
            · rw [getD_put hdl]
              simp only [getT]
              by_cases h : q = d
              · subst h; rw [Nat.beq_refl]; trivial
              · rw [if_neg h]
                have : Nat.beq d q = false := by
                  cases hq : Nat.beq d q with
                  | false => rfl
                  | true => exact absurd (Nat.eq_of_beq_eq_true hq).symm h
                rw [this, cond_false]
                exact hm _ _ (hr.tm q)
            · rcases List.mem_cons.1 hmm with h | h
              · cases h
                rw [getD_put hdl, getD_put hdl, if_neg hdt, if_pos rfl]
                exact ⟨h1, h2⟩
              · obtain ⟨n1, n2⟩ := noTag_spec hb.1.1.2 e g' p' y h
                rw [getD_put hdl, getD_put hdl, if_neg n1, if_neg n2]
                have := hr.cs _ _ _ _ h
                exact ⟨fun h => hm _ _ (this.1 h), this.2⟩
          by_cases hw : Region.wanted o (yielded ops a.tmps) = true
          · rw [if_pos hw]
            have htrue := hwiff.1 hw
            have hc1 : c = true := hciff.2 htrue
            have hg1 : g = true := by
              rcases hgc with h | h
              · exact h
              · rw [hc1] at h; cases h
            subst hg1
            have happ : ∀ c, o.op = .call c → c.callee ≠ .builtin .append := fun c hop hc => by
              have := hb.1.1.1
              unfold lazyOp at this
              rw [hop] at this
              simp only [hc] at this
              cases this
            refine plainOp_ok hC ho hr (ctxOf_ok hr.cs htrue) hG happ hp K Q fun v σ' k1 k2 k3 k4 => ?_
            exact hK _ σ' k1 k2.adv_id (hcs (fun x y hxy => RepT.keep k2.rep hxy) k3 (fun _ => k4) (fun hn => absurd htrue hn))
          · rw [if_neg hw]
            have hfalse : a.tmps.getD t undef ≠ .bool p := fun e => hw (hwiff.2 e)
            obtain ⟨σ1, b1, b2, b3, b4⟩ := lazy_mem ho hr.mem hb.1.1.1 hp
            have := hK (a.put o.dst undef) σ1 b3 b4.adv (hcs (fun x y hxy => b4.repT hxy) b1 (fun e => absurd e hfalse) (fun _ => rfl))
            rw [b2] at this
            exact this
        · cases h
    · cases h

end Vx
