/- Regions whose operations come in whatever order their edges allow. -/
import Derived.Test.YtkkdblemeoehpaaDoorVxRun
namespace Vx
open Go Go.RowKit

/-! ### what is not written stays: the memory behind an operation -/
theorem freeze1_notOwn {mem : Mem} {c : SC} (h : notOwn c = true) : freeze1 mem c = (c, mem) := by
  cases c <;> first | rfl | (simp [notOwn] at h)

theorem freezeL_notOwn {mem : Mem} : ∀ {l : List SC}, notOwns l = true → freezeL mem l = (l, mem)
  | [], _ => rfl
  | c :: r, h => by
    simp only [notOwns, Bool.and_eq_true] at h
    simp only [freezeL, freeze1_notOwn h.1, freezeL_notOwn h.2]

theorem freezeSV_notOwn {mem : Mem} {x : SV} (h : notOwns x.cells = true) : freezeSV mem x = (x, mem) := by
  cases x with
  | one c => simp only [SV.cells, notOwns, Bool.and_true] at h; simp only [freezeSV, freeze1_notOwn h]
  | agg cs => simp only [SV.cells] at h; simp only [freezeSV, freezeL_notOwn h]

theorem freezeSVs_notOwn {mem : Mem} : ∀ {l : List SV}, (∀ x ∈ l, notOwns x.cells = true) → freezeSVs mem l = (l, mem)
  | [], _ => rfl
  | x :: r, h => by
    have ih := freezeSVs_notOwn (mem := mem) (l := r) fun y hy => h y (by simp [hy])
    simp only [freezeSVs, freezeSV_notOwn (h x (by simp)), ih]

variable {C : Cfg} {s : St} {o : Oper} {ctx : List (Nat × Bool)}

theorem noOwns_spec : ∀ {l : List Operand}, noOwns s ctx l = true → ∀ x ∈ l, ∀ v, ev s ctx x = some v → notOwnT v = true
  | [], _, x, hx, _, _ => by simp at hx
  | y :: r, h, x, hx, v, hv => by
    simp only [noOwns, Bool.and_eq_true] at h
    rcases List.mem_cons.1 hx with rfl | hx
    · rw [hv] at h; exact h.1
    · exact noOwns_spec h.2 x hx v hv

theorem ev1_notOwn {l : List Operand} (h : noOwns s ctx l = true) {x : Operand} (hx : x ∈ l) {c : SC} (hc : ev1 s ctx x = some c) : notOwn c = true := by
  unfold ev1 at hc
  split at hc
  · rename_i c' e
    cases hc
    have := noOwns_spec h x hx _ e
    simpa [notOwnT, SV.cells, notOwns] using this
  · cases hc

theorem evV_notOwn {l : List Operand} (h : noOwns s ctx l = true) {x : Operand} (hx : x ∈ l) {c : SV} (hc : evV s ctx x = some c) : notOwns c.cells = true := by
  unfold evV at hc
  split at hc
  · rename_i c' e
    cases hc
    exact noOwns_spec h x hx _ e
  · cases hc

theorem evVs_notOwn {l : List Operand} (h : noOwns s ctx l = true) : ∀ {m : List Operand}, (∀ x ∈ m, x ∈ l) → ∀ {cs : List SV}, evVs s ctx m = some cs → ∀ c ∈ cs, notOwns c.cells = true
  | [], _, cs, hc, c, hcc => by simp only [evVs] at hc; cases hc; simp at hcc
  | x :: m, hm, cs, hc, c, hcc => by
    simp only [evVs] at hc
    split at hc
    · rename_i v vs e1 e2
      cases hc
      rcases List.mem_cons.1 hcc with rfl | hcc
      · exact evV_notOwn h (hm x (by simp)) e1
      · exact evVs_notOwn h (fun y hy => hm y (by simp [hy])) e2 c hcc
    · cases hc

theorem evParts_notOwn {l : List Operand} (h : noOwns s ctx l = true) : ∀ {m : List (Nat × Operand)}, (∀ p ∈ m, p.2 ∈ l) → ∀ {cs : List (Nat × SV)}, evParts s ctx m = some cs → ∀ c ∈ cs, notOwns c.2.cells = true
  | [], _, cs, hc, c, hcc => by simp only [evParts] at hc; cases hc; simp at hcc
  | (i, x) :: m, hm, cs, hc, c, hcc => by
    simp only [evParts] at hc
    split at hc
    · rename_i v vs e1 e2
      cases hc
      rcases List.mem_cons.1 hcc with rfl | hcc
      · exact evV_notOwn h (hm (i, x) (by simp)) e1
      · exact evParts_notOwn h (fun y hy => hm y (by simp [hy])) e2 c hcc
    · cases hc

theorem notOwns_append : ∀ {a b : List SC}, notOwns (a ++ b) = (notOwns a && notOwns b)
  | [], b => by simp [notOwns]
  | c :: a, b => by simp [notOwns, notOwns_append, Bool.and_assoc]

theorem notOwns_take : ∀ {l : List SC} (n : Nat), notOwns l = true → notOwns (l.take n) = true
  | _, 0, _ => by simp [notOwns]
  | [], _ + 1, _ => by simp [notOwns]
  | c :: l, n + 1, h => by
    simp only [notOwns, Bool.and_eq_true] at h
    simp [notOwns, h.1, notOwns_take n h.2]

theorem notOwns_drop : ∀ {l : List SC} (n : Nat), notOwns l = true → notOwns (l.drop n) = true
  | l, 0, h => by simpa using h
  | [], _ + 1, _ => by simp [notOwns]
  | c :: l, n + 1, h => by
    simp only [notOwns, Bool.and_eq_true] at h
    simpa using notOwns_drop n h.2

theorem svSplice_notOwn (place : Nat → Option (Nat × Nat)) : ∀ {ps : List (Nat × SV)} {old r : List SC}, svSplice place ps old = some r → notOwns old = true → (∀ p ∈ ps, notOwns p.2.cells = true) → notOwns r = true
  | [], old, r, h, ho, _ => by simp only [svSplice] at h; cases h; exact ho
  | (i, x) :: ps, old, r, h, ho, hp => by
    simp only [svSplice] at h
    split at h
    · cases h
    · have h := (cond_some h).2
      split at h
      · rename_i old' e
        refine svSplice_notOwn place h ?_ (fun p hp' => hp p (by simp [hp']))
        obtain ⟨h1, _⟩ := splice_eq e
        rw [h1, notOwns_append, notOwns_append, notOwns_take _ ho, notOwns_drop _ ho, hp (i, x) (by simp)]
        rfl
      · cases h

theorem scOfConst_notOwn {v : Value} {c : SC} (h : scOfConst v = some c) : notOwn c = true := by
  unfold scOfConst at h
  (repeat' split at h) <;> first | (cases h; rfl) | (cases h; done) | (have h2 := (cond_some h).2; cases h2; rfl)

theorem scsOfConst_notOwn : ∀ {l : List Value} {cs : List SC}, scsOfConst l = some cs → notOwns cs = true
  | [], _, h => by simp only [scsOfConst] at h; cases h; rfl
  | v :: r, _, h => by
    simp only [scsOfConst] at h
    split at h
    · rename_i e1 e2
      cases h
      simp [notOwns, scOfConst_notOwn e1, scsOfConst_notOwn e2]
    · cases h

theorem zeroSV_notOwn {P : Program} {T : TypeId} {z : SV} (h : zeroSV P T = some z) : notOwns z.cells = true := by
  unfold zeroSV at h
  split at h
  · split at h
    · unfold svOfConst at h
      split at h
      · split at h
        · rename_i e; cases h; exact scsOfConst_notOwn e
        · cases h
      · split at h
        · rename_i e; cases h; simp [SV.cells, notOwns, scOfConst_notOwn e]
        · cases h
    · cases h
  · cases h

theorem notOwns_flatten : ∀ (n : Nat) {l : List SC}, notOwns l = true → notOwns (List.replicate n l).flatten = true
  | 0, _, _ => rfl
  | n + 1, l, h => by rw [List.replicate_succ, List.flatten_cons, notOwns_append, h, notOwns_flatten n h]; rfl

/-- an operation that writes and makes nothing, over rows that nobody writes: the memory stays -/
theorem kind1_mem (hcalm : calm s ctx o.op = true) (hk : memKind o.op ≤ 1) {g : Bool} {x : TV} {mem : Mem} (h : plainOp C s ctx o = some (.ok g x mem)) : mem = s.mem := by
  unfold plainOp at h
  cases hop : o.op with
  | alloc T => rw [hop] at hk; simp [memKind] at hk
  | box T y => rw [hop] at hk; simp [memKind] at hk
  | store T y z => rw [hop] at hk; simp [memKind] at hk
  | makeSlice T l c => rw [hop] at hk; simp [memKind] at hk
  | slice T y lo hi mx => rw [hop] at hk; simp [memKind] at hk
  | buildSlice T n ps =>
    have hn : noOwns s ctx o.op.operands.toList = true := by
      have := hcalm; rw [hop] at this ⊢; exact this
    rw [hop] at h hn
    simp only at h
    split at h
    · split at h
      · rename_i z pl eτ hz hps
        split at h
        · rename_i cs ecs
          have hcs : notOwns cs = true := svSplice_notOwn _ ecs (notOwns_flatten n (zeroSV_notOwn hz)) (evParts_notOwn hn (fun p hp => by
            simp only [Op.operands]
            simp only [List.mem_map]
            exact ⟨p, hp, rfl⟩) hps)
          rw [freezeL_notOwn hcs] at h
          simp only at h
          split at h
          · exact res_mem (cond_some h).2
          · cases h
        · cases h
      · cases h
    · cases h
  | indexAddr T y z =>
    rw [hop] at h hcalm
    simp only at h
    split at h
    · split at h
      · exact res_mem (cond_some (ite_some h)).2
      · cases h
    · split at h
      · exact res_mem (ite_some h)
      · cases h
    · rename_i e c i hT ec ei
      split at h
      · split at h
        · split at h
          · exact res_mem (ite_some h)
          · rename_i eb
            simp only [calm, ec, eb] at hcalm
            cases hcalm
          · exact res_mem (ite_some h)
          · cases h
        · exact res_mem (ite_some h)
        · cases h
      · cases h
    · cases h
  | call c =>
    rw [hop] at h hk hcalm
    simp only at h
    cases hc : c.callee with
    | value fo =>
      have hn : noOwns s ctx (Op.call c).operands.toList = true := by simpa only [calm, hc] using hcalm
      simp only [hc] at h
      split at h
      · rename_i f caps args ef eargs
        have hargs := evVs_notOwn hn (m := c.args.toList) (fun x hx => by simp [Op.operands, Call.operands, hc]; exact .inr (by simpa using hx)) eargs
        split at h
        · rw [freezeSVs_notOwn hargs] at h
          simp only at h
          (repeat' split at h) <;> first | (cases h; done) | exact res_mem h
        · have h2 := (cond_some h).2; cases h2
      · cases h
    | invoke r m => simp only [hc] at h; cases h
    | builtin b =>
      simp only [memKind, hc] at hk
      simp only [hc] at h
      cases b <;> simp only at h hk <;> first | omega | (cases h; done) | (repeat' split at h) <;> first | (cases h; done) | exact res_mem h | exact res_mem (cond_some h).2 | exact res_mem (ite_some h)
  | _ =>
    rw [hop] at h
    simp only at h
    (repeat' split at h) <;> first | (cases h; done) | exact res_mem h | exact res_mem (cond_some h).2 | exact res_mem (ite_some h) | (have h2 := (cond_some h).2; cases h2)

theorem res_any {g g' : Bool} {x x' : TV} {m m' : Mem} (h : some (Res.ok g x m) = some (Res.ok g' x' m')) (m2 : Mem) : some (Res.ok g x m2) = some (Res.ok g' x' m2) := by
  cases h; rfl

/-- two memories with the same block behind a value -/
def Agree (m m2 : Mem) (c : SC) : Prop := ∀ b, blkOfC c = some b → blkAt m2 b = blkAt m b

theorem cellsAt_agree {m m2 : Mem} {c : SC} (h : Agree m m2 c) : cellsAt m2 c = cellsAt m c := by
  cases c with
  | ptr b off => simp only [cellsAt, h b rfl]
  | eptr b i off => simp only [cellsAt, h b rfl]
  | _ => rfl

theorem lenOf_agree {m m2 : Mem} {c : SC} (h : Agree m m2 c) : lenOf m2 c = lenOf m c := by
  cases c with
  | own b => simp only [lenOf, h b rfl]
  | v x =>
    unfold lenOf
    split <;> first | rfl | (rename_i e; cases e) | simp_all
  | _ => rfl

theorem ev_mem (m2 : Mem) (ctx : List (Nat × Bool)) (y : Operand) : ev { s with mem := m2 } ctx y = ev s ctx y := by cases y <;> rfl
theorem ev1_mem (m2 : Mem) (ctx : List (Nat × Bool)) (y : Operand) : ev1 { s with mem := m2 } ctx y = ev1 s ctx y := by unfold ev1; rw [ev_mem]
theorem evV_mem (m2 : Mem) (ctx : List (Nat × Bool)) (y : Operand) : evV { s with mem := m2 } ctx y = evV s ctx y := by unfold evV; rw [ev_mem]
theorem evVs_mem (m2 : Mem) (ctx : List (Nat × Bool)) : ∀ l : List Operand, evVs { s with mem := m2 } ctx l = evVs s ctx l
  | [] => rfl
  | x :: r => by simp only [evVs, evV_mem, evVs_mem m2 ctx r]
theorem evParts_mem (m2 : Mem) (ctx : List (Nat × Bool)) : ∀ l : List (Nat × Operand), evParts { s with mem := m2 } ctx l = evParts s ctx l
  | [] => rfl
  | (i, x) :: r => by simp only [evParts, evV_mem, evParts_mem m2 ctx r]
theorem intArg_mem (m2 : Mem) (ctx : List (Nat × Bool)) (y : Operand) : intArg { s with mem := m2 } ctx y = intArg s ctx y := by unfold intArg; rw [ev1_mem]

/-- what an operation reads, as far as it matters -/
def FpSame (m m2 : Mem) : FP → Prop
  | .pure => True
  | .rd (some b) => blkAt m2 b = blkAt m b
  | .wr (some b) => blkAt m2 b = blkAt m b
  | _ => m2 = m

theorem agree_of {m2 : Mem} {y : Operand} {c : SC} (hc : ev1 s ctx y = some c) (h : FpSame s.mem m2 (fpAddr s ctx y)) : Agree s.mem m2 c := by
  intro b hb
  unfold fpAddr at h
  rw [hc] at h
  simp only [hb] at h
  exact h


/-- over another memory that has what is read, the operation goes on alike -/
theorem fp_any (hcalm : calm s ctx o.op = true) (hk : memKind o.op ≤ 1) {g : Bool} {x : TV} {mem : Mem} (h : plainOp C s ctx o = some (.ok g x mem)) (m2 : Mem) (hs : FpSame s.mem m2 (fpOf s ctx o.op)) :
    plainOp C { s with mem := m2 } ctx o = some (.ok g x m2) := by
  by_cases hfull : m2 = s.mem
  · subst hfull
    have := kind1_mem hcalm hk h
    subst this
    exact h
  unfold plainOp at h ⊢
  cases hop : o.op with
  | alloc T => rw [hop] at hk; simp [memKind] at hk
  | box T y => rw [hop] at hk; simp [memKind] at hk
  | store T y z => rw [hop] at hk; simp [memKind] at hk
  | makeSlice T l c => rw [hop] at hk; simp [memKind] at hk
  | slice T y lo hi mx => rw [hop] at hk; simp [memKind] at hk
  | makeFunc fn first captured => rw [hop] at hs; exact absurd hs hfull
  | load T y =>
    rw [hop] at h hs
    simp only [ev1_mem] at h ⊢
    split at h
    · rename_i a ea
      have hag := agree_of ea hs
      simp only [cellsAt_agree hag]
      (repeat' split at h) <;> first | (cases h; done) | exact res_any h m2
    · cases h
  | nilCheck y =>
    rw [hop] at h hs
    simp only [ev_mem] at h ⊢
    split at h
    · rename_i b off ea
      have hag := agree_of (c := .ptr b off) (by unfold ev1; rw [ea]) hs b rfl
      simp only [hag]
      (repeat' split at h) <;> first | (cases h; done) | exact res_any h m2
    · cases h
  | fieldAddr T y i =>
    rw [hop] at h hs
    simp only [ev1_mem] at h ⊢
    split at h
    · rename_i b off d ft ea ef
      have hag := agree_of ea hs b rfl
      simp only [hag]
      (repeat' split at h) <;> first | (cases h; done) | exact res_any h m2
    · rename_i b j off d ft ea ef
      have hag := agree_of ea hs b rfl
      simp only [hag]
      (repeat' split at h) <;> first | (cases h; done) | exact res_any h m2
    · exact res_any h m2
    · cases h
  | indexAddr T y z =>
    rw [hop] at h hs
    simp only [ev1_mem, intArg_mem] at h ⊢
    split at h
    · split at h
      · split at h
        · rename_i heq
          rw [if_pos heq]
          obtain ⟨h1, h2⟩ := cond_some h
          simp only [h1, cond_true]
          exact res_any h2 m2
        · cases h
      · cases h
    · rename_i ea ei
      have hag := agree_of ea hs _ rfl
      simp only [hag]
      split at h
      · split at h
        · rename_i heq
          rw [if_pos heq]
          exact res_any h m2
        · cases h
      · cases h
    · rename_i c i hT ea ei
      have hag := agree_of ea hs
      split at h
      · rename_i τ eτ
        cases c with
        | own b =>
          have hb := hag b rfl
          simp only at h ⊢
          simp only [hb]
          have hc2 := hcalm
          rw [hop] at hc2
          simp only [calm, ea] at hc2
          split at h
          · split at h
            · rename_i heq; rw [if_pos heq]; exact res_any h m2
            · cases h
          · rename_i eb; rw [eb] at hc2; cases hc2
          · split at h
            · rename_i heq; rw [if_pos heq]; exact res_any h m2
            · cases h
          · cases h
        | sl τ' xs =>
          simp only at h ⊢
          split at h
          · rename_i heq; rw [if_pos heq]; exact res_any h m2
          · cases h
        | _ => simp only at h; cases h
      · cases h
    · cases h
  | buildSlice T n ps =>
    have hn : noOwns s ctx o.op.operands.toList = true := by
      have := hcalm; rw [hop] at this ⊢; exact this
    rw [hop] at h hn
    simp only [evParts_mem] at h ⊢
    split at h
    · split at h
      · rename_i z pl eτ hz hps
        split at h
        · rename_i cs ecs
          have hcs : notOwns cs = true := svSplice_notOwn _ ecs (notOwns_flatten n (zeroSV_notOwn hz)) (evParts_notOwn hn (fun p hp => by
            simp only [Op.operands]
            simp only [List.mem_map]
            exact ⟨p, hp, rfl⟩) hps)
          rw [freezeL_notOwn hcs] at h ⊢
          simp only at h ⊢
          split at h
          · obtain ⟨h1, h2⟩ := cond_some h
            simp only [h1, cond_true]
            exact res_any h2 m2
          · cases h
        · cases h
      · cases h
    · cases h
  | call c =>
    rw [hop] at h hk hs hcalm
    cases hc : c.callee with
    | value fo =>
      have hn : noOwns s ctx (Op.call c).operands.toList = true := by simpa only [calm, hc] using hcalm
      simp only [hc, ev1_mem, evVs_mem] at h ⊢
      split at h
      · rename_i f caps args ef eargs
        have hargs := evVs_notOwn hn (m := c.args.toList) (fun x hx => by simp [Op.operands, Call.operands, hc]; exact .inr (by simpa using hx)) eargs
        split at h
        · rw [freezeSVs_notOwn hargs] at h ⊢
          simp only at h ⊢
          (repeat' split at h) <;> first | (cases h; done) | exact res_any h m2
        · have h2 := (cond_some h).2; cases h2
      · cases h
    | invoke r m => simp only [hc] at h; cases h
    | builtin b =>
      cases b with
      | len =>
        simp only [hc, ev1_mem] at h ⊢
        simp only [fpOf, hc] at hs
        split at h
        · rename_i x T ex eT
          rw [ex] at hs
          simp only at hs
          split at h
          · obtain ⟨h1, h2⟩ := cond_some h
            simp only [h1, cond_true]
            exact res_any h2 m2
          · split at h
            · rename_i a ea
              have hag := agree_of ea hs
              split at h
              · cases h
              · simp only [lenOf_agree hag]
                (repeat' split at h) <;> first | (cases h; done) | exact res_any h m2
            · cases h
          · split at h
            · exact res_any h m2
            · cases h
          · cases h
        · cases h
      | min =>
        simp only [hc, ev1_mem] at h ⊢
        split at h
        · split at h
          · split at h
            · rename_i hk'; rw [if_pos hk']; exact res_any h m2
            · cases h
          · cases h
        · cases h
      | max =>
        simp only [hc, ev1_mem] at h ⊢
        split at h
        · split at h
          · split at h
            · rename_i hk'; rw [if_pos hk']; exact res_any h m2
            · cases h
          · cases h
        · cases h
      | append => simp [memKind, hc] at hk
      | copy => simp [memKind, hc] at hk
      | _ => simp only [hc] at h; cases h
  | index T y z =>
    rw [hop] at h
    simp only [ev1_mem, intArg_mem] at h ⊢
    split at h
    · exact res_any h m2
    · cases h
  | _ =>
    rw [hop] at h
    simp only [ev_mem, ev1_mem, evV_mem, evParts_mem] at h ⊢
    first
      | (cases h; done)
      | ((repeat' split at h) <;> first | (cases h; done) | exact res_any h m2 | (obtain ⟨h1, h2⟩ := cond_some h; simp only [h1, cond_true]; first | (cases h2; done) | exact res_any h2 m2))


/-- a store to a block: over another memory that has this block it stores the same -/
theorem fp_store {T : TypeId} {y z : Operand} (hop : o.op = .store T y z) {g : Bool} {x : TV} {mem : Mem} (h : plainOp C s ctx o = some (.ok g x mem)) {m2 : Mem} {b : Nat} (hf : fpOf s ctx o.op = .wr (some b)) (hb : blkAt m2 b = blkAt s.mem b) :
    blkAt s.mem b ≠ .gone ∧ ∃ e, mem = s.mem.set b e ∧ plainOp C { s with mem := m2 } ctx o = some (.ok g x (m2.set b e)) := by
  unfold plainOp at h ⊢
  rw [hop] at h hf
  rw [hop]
  simp only [ev1_mem, evV_mem] at h ⊢
  simp only [fpOf] at hf
  split at h
  · rename_i b' off v ey ez
    rw [ey, ez] at hf
    simp only [FP.wr.injEq, Option.some.injEq] at hf
    subst hf
    simp only [hb]
    split at h
    · rename_i eb
      obtain ⟨h1, h2⟩ := cond_some h
      simp only [h1, cond_true]
      split at h2
      · rename_i cs' ecs
        cases h2
        exact ⟨by rw [eb]; simp, _, rfl, rfl⟩
      · cases h2
    · cases h
  · rename_i b' i off v ey ez
    rw [ey, ez] at hf
    simp only at hf
    cases hno : notOwns v.cells with
    | false => rw [hno] at hf; simp at hf
    | true =>
      rw [hno] at hf
      simp only [cond_true, FP.wr.injEq, Option.some.injEq] at hf
      subst hf
      rw [freezeSV_notOwn hno] at h ⊢
      simp only [hb] at h ⊢
      split at h
      · rename_i eb
        obtain ⟨h1, h2⟩ := cond_some h
        simp only [h1, cond_true]
        split at h2
        · split at h2
          · cases h2
            exact ⟨by rw [eb]; simp, _, rfl, rfl⟩
          · cases h2
        · cases h2
      · cases h
  · cases h

end Vx
