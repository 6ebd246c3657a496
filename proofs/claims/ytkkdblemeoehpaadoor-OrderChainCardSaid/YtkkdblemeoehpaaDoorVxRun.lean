/- Regions. -/
import Derived.Test.YtkkdblemeoehpaaDoorVxStep
namespace Vx
open Go Go.RowKit

variable {C : Cfg} {base : World} {S0 : Nat → Prop} {σ σ0 : Sit} {s s' : St} {a : Act} {R : Type} {r : R}

structure ProgOk (C : Cfg) : Prop where
  sums : SumsOk C
  mixed : C.P.follows .mixedOrders = true

/-- a function that is followed in place -/
def InlOk (C : Cfg) (inl : FuncId → List SV → Mem → (List SV → Mem → Option R) → Option R) : Prop :=
  ∀ f args mem k r, inl f args mem k = some r → ∀ base S0 (σ : Sit) ys, Ok base S0 σ → σ.mem = mem → GlobsOk C.globs σ.w σ.S → All2 (RepV σ) args ys →
    (∃ fn, C.P.funcs[f]? = some fn ∧ fn.body.isNone = false ∧ (fn.name == "runtime.NumGoroutine") = false) ∧
    Calls C.P f ys.toArray σ.w fun e w' => ∃ (σ' : Sit) (rs : List SV) (zs : List Value), e = .returned (resOf zs) ∧ σ'.w = w' ∧ Ok base S0 σ' ∧ Adv σ σ' ∧ All2 (RepV σ') rs zs ∧ k rs σ'.mem = some r

theorem GlobsOk.adv {G : List (Nat × Sigma fun τ => List (Den τ))} {σ σ' : Sit} (h : GlobsOk G σ.w σ.S) (ha : Adv σ σ') : GlobsOk G σ'.w σ'.S := h.mono ha.stab ha.heap

/-- where a piece of code may arrive -/
def Post (base : World) (S0 : Nat → Prop) (σ0 : Sit) (r : R) (kn : St → Option R) (ke : Nat → St → Option R) (kr : St → Option R) (e : Exit) (a' : Act) (w' : World) : Prop :=
  ∃ (σ' : Sit) (s' : St), σ'.w = w' ∧ Ok base S0 σ' ∧ Adv σ0 σ' ∧ RelT σ' s' a' ∧ s'.m0 = σ0.mem.length ∧ (match e with
    | .normal => kn s' = some r
    | .exit id => ke id s' = some r
    | .ret => kr s' = some r
    | _ => False)

theorem step_m0 {ops : List Oper} {o : Oper} {g : Bool} (h : step C ops o s = some (.ok g s')) : s'.m0 = s.m0 := by
  unfold step at h
  have hput : ∀ {s1 s2 : St} {x : TV} {mem : Mem}, putRes s1 o x mem = some s2 → s2.m0 = s1.m0 := fun {s1 s2 x mem} h => by
    unfold putRes at h
    split at h
    · cases h; rfl
    · have h2 := (cond_some h).2; cases h2; rfl
  split at h
  · split at h
    · split at h
      rename_i s1 m1 e
      split at h
      · rename_i s2 e2
        cases h
        rw [hput e2]
        unfold stripFor at e
        split at e
        · split at e
          · split at e <;> (cases e; rfl)
          · cases e; rfl
        · cases e; rfl
      · cases h
    · cases h
    · cases h
  · split at h
    · have h := (cond_some h).2
      split at h
      · cases h; rfl
      · cases h
    · cases h

theorem RelT.clear (hr : RelT σ s a) : RelT σ { s with cs := [] } a := ⟨hr.size, hr.defers, hr.mem, hr.tm, fun _ _ _ _ h => by simp at h⟩

theorem allRaw_ok {mem : Mem} : ∀ {l : List (Nat × Nat)}, allRaw mem l = true → ∀ p ∈ l, ∃ cs, blkAt mem p.1 = .raw cs
  | [], _, p, hp => by simp at hp
  | (b, off) :: r, h, p, hp => by
    simp only [allRaw] at h
    split at h
    · rename_i cs e
      rcases List.mem_cons.1 hp with rfl | hp
      · exact ⟨cs, e⟩
      · exact allRaw_ok h p hp
    · cases h

theorem caps_rep {σ : Sit} : ∀ {caps : List (Nat × Nat)} {rs : List Nat}, (∀ p ∈ caps, p.1 < σ.mem.length) → (∀ p ∈ caps, ∃ cs, blkAt σ.mem p.1 = .raw cs) → caps.map (fun p => σ.E.β p.1) = rs.map some →
    All2 (RepV σ) (caps.map fun p => SV.one (.ptr p.1 p.2)) ((caps.zip rs).map fun q => Value.pointer (some ⟨q.2, q.1.2, none⟩))
  | [], _, _, _, _ => by simp; exact .nil
  | p :: caps, [], _, _, h => by simp at h
  | p :: caps, q :: rs, h1, h2, h => by
    simp only [List.map_cons, List.cons.injEq] at h
    obtain ⟨cs, e⟩ := h2 p (by simp)
    refine .cons ⟨h1 p (by simp), trivial, ?_⟩ (caps_rep (fun p hp => h1 p (by simp [hp])) (fun p hp => h2 p (by simp [hp])) h.2)
    rw [e]
    exact ⟨q, h.1, rfl⟩

/-- a call that is followed in place -/
theorem inl_ok {inl : FuncId → List SV → Mem → (List SV → Mem → Option R) → Option R} (hI : InlOk C inl) (ho : Ok base S0 σ) (hr : RelT σ s a) (hG : GlobsOk C.globs σ.w σ.S) {o : Oper} {f : FuncId} {args : List SV} {k : List SV → Mem → Option R}
    (hs : plainOp C s [] o = some (.inl f args)) (h : inl f args s.mem k = some r) {K : Act → World → Prop} {Q : Exit → Act → World → Prop}
    (hK : ∀ (v : Value) (σ' : Sit) (rs : List SV) (zs : List Value), Ok base S0 σ' → Adv σ σ' → v = resOf zs → All2 (RepV σ') rs zs → k rs σ'.mem = some r → K (a.put o.dst v) σ'.w) : o.wp C.P a σ.w K Q := by
  have hx : CtxOk a [] := fun _ _ h => by simp at h
  have hcall : ∃ c fo caps as, o.op = .call c ∧ c.callee = .value fo ∧ ev1 s [] fo = some (.fn f caps) ∧ evVs s [] c.args.toList = some as ∧ allRaw s.mem caps = true ∧ args = as ++ caps.map fun p => SV.one (.ptr p.1 p.2) := by
    unfold plainOp at hs
    cases hop : o.op with
    | call c =>
      rw [hop] at hs
      simp only at hs
      cases hc : c.callee with
      | value fo =>
        simp only [hc] at hs
        split at hs
        · rename_i f' caps as ef ea
          split at hs
          · repeat' split at hs
            all_goals cases hs
          · obtain ⟨h1, h2⟩ := cond_some hs
            cases h2
            exact ⟨c, fo, caps, as, rfl, hc, ef, ea, h1, rfl⟩
        · cases hs
      | invoke q m => simp only [hc] at hs; cases hs
      | builtin b =>
        simp only [hc] at hs
        cases b <;> simp only at hs <;> first | (cases hs; done) | (repeat' split at hs) <;> first | (cases hs; done) | (have h2 := (cond_some hs).2; cases h2; done) | (have h2 := ite_some hs; cases h2)
    | _ =>
      rw [hop] at hs
      simp only at hs
      (repeat' split at hs) <;> first | (cases hs; done) | (have h2 := (cond_some hs).2; (repeat' split at h2) <;> cases h2; done) | (have h2 := ite_some hs; (repeat' split at h2) <;> first | (cases h2; done) | (have h3 := (cond_some h2).2; cases h3))
  obtain ⟨c, fo, caps, as, hop, hc, ef, ea, hraw, rfl⟩ := hcall
  rw [← hr.mem] at hraw h
  obtain ⟨hb, _, hm⟩ := ev1_ok hr hx ef
  have hall := allRaw_ok hraw
  obtain ⟨rs, hrs, hfv⟩ := hm.resolve_left fun ⟨p, hp, hq⟩ => by obtain ⟨cs, e⟩ := hall p hp; rw [e] at hq; exact hq
  have hargs := (evVs_ok hr hx ea).append (caps_rep hb hall hrs)
  obtain ⟨hcl, hcalls⟩ := hI f _ σ.mem k r h base S0 σ _ ho rfl hG hargs
  have hexec : (execOp a.eval o).run C.P σ.w = .ok (.enter f ((c.args.toList.map a.eval) ++ (caps.zip rs).map fun q => Value.pointer (some ⟨q.2, q.1.2, none⟩)).toArray) σ.w := by
    simp only [execOp, hop, resolve, hc, hfv]
    simp only [Deferred.ofValue, Sem.run_bind, Sem.run_pure, Result.andThen_ok, invoke]
    rw [run_callFunc hcl]
    congr 2
    apply Array.toList_inj.1
    simp
  unfold Oper.wp
  rw [hexec, Oper.upon_enter]
  refine hcalls.mono fun e w' he => ?_
  obtain ⟨σ', rs', zs, rfl, rfl, h1, h2, h3, h4⟩ := he
  exact hK (resOf zs) σ' rs' zs h1 h2 rfl h3 h4

theorem runOps_ok (hP : ProgOk C) {inl : FuncId → List SV → Mem → (List SV → Mem → Option R) → Option R} (hI : InlOk C inl) (ops : Array Oper) {kn : St → Option R} {ke : Nat → St → Option R} {kr : St → Option R} (hG0 : GlobsOk C.globs σ0.w σ0.S) :
    ∀ (l : List Oper) {σ : Sit} {s : St} {a : Act}, Ok base S0 σ → Adv σ0 σ → RelT σ s a → s.m0 = σ0.mem.length → runOps C inl ops.toList l s kn = some r → wpList C.P ops (Post base S0 σ0 r kn ke kr) l a σ.w
  | [], σ, s, a, ho, hA, hr, hm, h => ⟨σ, s, rfl, ho, hA, hr, hm, h⟩
  | o :: l, σ, s, a, ho, hA, hr, hm, h => by
    simp only [runOps] at h
    unfold wpList
    split at h
    · rename_i g s1 e
      obtain ⟨h1, h2⟩ := cond_some h
      subst h1
      have := step_ok hP.sums ho hr (hG0.adv hA) e (K := wpList C.P ops (Post base S0 σ0 r kn ke kr) l) (Q := Post base S0 σ0 r kn ke kr) fun a' σ' k1 k2 k3 =>
        runOps_ok hP hI ops hG0 l k1 (hA.trans k2) k3 ((step_m0 e).trans hm) h2
      split at this
      · rename_i hw; rw [if_pos hw]; exact .inl this
      · rename_i hw; rw [if_neg hw]; exact this
    · rename_i f args e
      split at h
      · rename_i hg
        rw [if_pos (by simp [Region.wanted, hg])]
        have hs : plainOp C s [] o = some (.inl f args) := by
          unfold step at e
          rw [hg] at e
          simp only at e
          (repeat' split at e) <;> first | (cases e; done) | (cases e; assumption)
        refine .inl (inl_ok hI ho hr (hG0.adv hA) hs h fun v σ' rs zs k1 k2 k3 k4 k5 => ?_)
        split at k5
        · rename_i s2 e2
          refine runOps_ok hP hI ops hG0 l k1 (hA.trans k2) (s := s2) ?_ ?_ k5
          · refine relT_put (σ := σ) (fT := dropAccT s.mem) rfl (fun x y hxy => RepT.drop (by rw [← hr.mem]; exact k2.rep) (dropAccT_eq s.mem) hxy) hr (x := tvOf rs) (v := v) (by rw [k3]; exact tvOf_ok k4) rfl e2
          · unfold putRes at e2
            split at e2
            · cases e2; exact hm
            · have := (cond_some e2).2; cases this; exact hm
        · cases k5
      · cases h
    · cases h

end Vx
