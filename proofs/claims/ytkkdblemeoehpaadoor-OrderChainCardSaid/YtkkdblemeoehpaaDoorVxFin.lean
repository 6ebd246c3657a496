/- Functions. -/
import Derived.Test.YtkkdblemeoehpaaDoorVxExec
import Derived.Laws.Sem
namespace Vx
open Go Go.RowKit

variable {C : Cfg} {base : World} {S0 : Nat → Prop} {R : Type} {r : R} {σ : Sit} {s : St} {a : Act}

theorem loadVar_of {P : Program} {T : TypeId} {p : Addr} {w : World} {v : Value} (h : (Instr.loadAt T (.pointer (some p))).run P w = .ok v w) : (loadVar T p).run P w = .ok v w := by
  unfold Instr.loadAt at h
  simpa [Instr.sureAddr] using h

def resVar (tmps : Array Value) (v : ResultVar) : Sem Value :=
  match v with
  | .tmp t => pure (tmps.getD t undef)
  | .cell c T => do loadVar T (← asAddr (tmps.getD c undef))

theorem readRes_ok {P : Program} (ho : Ok base S0 σ) (hr : RelT σ s a) : ∀ {l : List ResultVar} {rs : List SV}, readRes P s l = some rs →
    ∃ zs, (l.mapM (resVar a.tmps)).run P σ.w = .ok zs σ.w ∧ All2 (RepV σ) rs zs
  | [], rs, h => by
    simp only [readRes] at h; cases h
    exact ⟨[], by simp, .nil⟩
  | .tmp t :: l, rs, h => by
    simp only [readRes] at h
    split at h
    · rename_i x rs' e1 e2
      cases h
      obtain ⟨zs, h1, h2⟩ := readRes_ok ho hr e2
      have ht := hr.tm t
      rw [e1] at ht
      exact ⟨_ :: zs, by simp [resVar, h1], .cons ht h2⟩
    · cases h
  | .cell c T :: l, rs, h => by
    simp only [readRes] at h
    split at h
    · rename_i z rs' e1 e2
      obtain ⟨zs, h1, h2⟩ := readRes_ok ho hr e2
      have ht := hr.tm c
      rw [e1] at ht
      have ptr : ∀ {cs off}, cellsAt σ.mem z = some (cs, off) → ∃ p, a.tmps.getD c undef = .pointer (some p) := fun hc => by
        obtain ⟨r, o, vs, T', fz, ds, hy, _⟩ := cellsAt_ok ho ht hc
        exact ⟨_, hy⟩
      rw [← hr.mem] at h
      split at h
      · rename_i cs off hc hT
        split at h
        · rename_i x hx
          cases h
          obtain ⟨p, hp⟩ := ptr hc
          obtain ⟨v, hv, hR⟩ := load_agg (cellsAt_ok ho ht hc) hT hx
          rw [hp] at hv
          exact ⟨v :: zs, by simp [resVar, hp, asAddr, loadVar_of hv, h1], .cons hR h2⟩
        · cases h
      · rename_i cs off hc hT
        split at h
        · rename_i x hx
          cases h
          obtain ⟨p, hp⟩ := ptr hc
          obtain ⟨v, hv, hR⟩ := load_one (cellsAt_ok ho ht hc) hT (by assumption)
          rw [hp] at hv
          exact ⟨v :: zs, by simp [resVar, hp, asAddr, loadVar_of hv, h1], .cons hR h2⟩
        · cases h
      · cases h
    · cases h

theorem results_ok {P : Program} {fn : Func} (ho : Ok base S0 σ) (hr : RelT σ s a) {rs : List SV} (h : readRes P s fn.results.toList = some rs) :
    ∃ zs, (results fn a.tmps).run P σ.w = .ok (resOf zs) σ.w ∧ All2 (RepV σ) rs zs := by
  obtain ⟨zs, h1, h2⟩ := readRes_ok ho hr h
  refine ⟨zs, ?_, h2⟩
  have he : results fn a.tmps = (do
      let vs ← fn.results.mapM (resVar a.tmps)
      pure (if h : vs.size = 1 then vs[0] else .tuple vs)) := rfl
  rw [he, Array.mapM_eq_mapM_toList]
  simp only [bind_map_left, Sem.run_bind, h1, Result.andThen_ok, Sem.run_pure]
  congr 1
  unfold resOf
  split
  · rename_i hs
    simp at hs
    match zs, hs with
    | [y], _ => rfl
  · rename_i hs
    split
    · simp at hs
    · rfl

theorem argT_get : ∀ {l : List SV} {n t : Nat}, getT (argT n l) t = (match l[t - n]? with | some x => if n ≤ t then .val x else .un | none => .un)
  | [], n, t => by simp [argT, getT]
  | x :: l, n, t => by
    simp only [argT, getT]
    cases hb : Nat.beq n t with
    | true => have := Nat.eq_of_beq_eq_true hb; subst this; simp
    | false =>
      have hne : n ≠ t := fun e => by subst e; simp [Nat.beq_refl] at hb
      simp only [cond_false]
      rw [argT_get]
      rcases Nat.lt_or_ge n t with hlt | hge
      · have : t - n = (t - (n + 1)) + 1 := by omega
        rw [this, List.getElem?_cons_succ]
        have h1 : n + 1 ≤ t := hlt
        have h2 : n ≤ t := by omega
        simp only [h1, h2, if_true]
      · have h0 : t - n = 0 := by omega
        have h1 : ¬ n + 1 ≤ t := by omega
        have h2 : ¬ n ≤ t := by omega
        rw [h0, List.getElem?_cons_zero]
        simp only [h1, h2, if_false]
        split <;> rfl

/-- the frame at a call's beginning -/
theorem start_rel {args : List SV} {ys : List Value} {n : Nat} (ha : All2 (RepV σ) args ys) (hn : args.length ≤ n) :
    RelT σ { n := n, m0 := σ.mem.length, tm := argT 0 args, mem := σ.mem, cs := [] } { tmps := ys.toArray ++ Array.replicate (n - ys.toArray.size) undef, defers := [] } := by
  have hlen := ha.length
  refine ⟨by simp; omega, rfl, rfl, fun t => ?_, fun d g p x hm => by simp at hm⟩
  rw [argT_get]
  simp only [Nat.sub_zero]
  cases hx : args[t]? with
  | none => trivial
  | some x =>
    obtain ⟨y, hy, hxy⟩ := ha.get hx
    simp only [Nat.zero_le, if_true]
    have : (ys.toArray ++ Array.replicate (n - ys.toArray.size) undef).getD t undef = y := by
      have hlt : t < ys.length := (List.getElem?_eq_some_iff.1 hy).1
      rw [Array.getD_eq_getD_getElem?, Array.getElem?_append_left (by simpa using hlt)]
      simp [hy]
    rw [this]
    exact hxy

/-- a function's body -/
theorem bodyRun_ok (hP : ProgOk C) (hL : LoopsOk C) {inl : FuncId → List SV → Mem → (List SV → Mem → Option R) → Option R} (hI : InlOk C inl) {lp : Bool} (hlp : lp = true → ∃ d, inl = inlRun C (d + 2))
    {f : FuncId} {fn : Func} (hf : C.P.funcs[f]? = some fn) {args : List SV} {mem : Mem} {k : List SV → Mem → Option R} (h : bodyRun C inl lp f fn args mem k = some r) {ys : List Value}
    (ho : Ok base S0 σ) (hm : σ.mem = mem) (hG : GlobsOk C.globs σ.w σ.S) (ha : All2 (RepV σ) args ys) :
    (∃ fn, C.P.funcs[f]? = some fn ∧ fn.body.isNone = false ∧ (fn.name == "runtime.NumGoroutine") = false) ∧
    Calls C.P f ys.toArray σ.w fun e w' => ∃ (σ' : Sit) (rs : List SV) (zs : List Value), e = .returned (resOf zs) ∧ σ'.w = w' ∧ Ok base S0 σ' ∧ Adv σ σ' ∧ All2 (RepV σ') rs zs ∧ k rs σ'.mem = some r := by
  unfold bodyRun at h
  split at h
  · rename_i c hc
    obtain ⟨hb, h⟩ := cond_some h
    simp only [Bool.and_eq_true, Bool.not_eq_true'] at hb
    subst hm
    refine ⟨⟨fn, hf, by simp [hc], hb.2⟩, ?_⟩
    refine calls_of_wp hf hc (wp_mono (exec_ok hP hL hI hlp hG hf hc c (fun _ h => h) σ _ _ _ _ _ ho (Adv.refl σ) (start_rel ha (by simpa using hb.1)) rfl h) fun e a' w' hp => ?_)
    obtain ⟨σ', s', rfl, k2, k3, k4, k5, k6⟩ := hp
    have hfin : fin C.P fn k s' = some r → a'.defers = [] ∧ ∃ v, (results fn a'.tmps).run C.P σ'.w = .ok v σ'.w ∧
        ∃ (σ'' : Sit) (rs : List SV) (zs : List Value), Ending.returned v = .returned (resOf zs) ∧ σ''.w = σ'.w ∧ Ok base S0 σ'' ∧ Adv σ σ'' ∧ All2 (RepV σ'') rs zs ∧ k rs σ''.mem = some r := fun h => by
      unfold fin at h
      split at h
      · rename_i rs ers
        obtain ⟨zs, h1, h2⟩ := results_ok k2 k4 ers
        exact ⟨k4.defers, _, h1, σ', rs, zs, rfl, rfl, k2, k3, h2, by rw [k4.mem]; exact h⟩
      · cases h
    cases e with
    | normal => exact hfin k6
    | ret => exact hfin k6
    | exit id => cases k6
    | _ => exact k6.elim
  · cases h

theorem inlRun_ok (hP : ProgOk C) (hL : LoopsOk C) : ∀ d, InlOk C (inlRun (R := R) C d)
  | 0, f, args, mem, k, r, h => by simp [inlRun] at h
  | d + 1, f, args, mem, k, r, h => by
    intro base S0 σ ys ho hm hG ha
    simp only [inlRun] at h
    split at h
    · rename_i fn hf
      obtain ⟨_, h⟩ := cond_some h
      refine bodyRun_ok hP hL (inlRun_ok hP hL d) (fun hl => ?_) hf h ho hm hG ha
      have : 2 ≤ d := by simpa using hl
      exact ⟨d - 2, by rw [show d - 2 + 2 = d by omega]⟩
    · cases h

/-- the situation before a call on plain data -/
theorem start_ok {w : World} {St : Nat → Prop} (h : ∀ q, St q → q < w.heap.size) : Ok w St { E := ⟨fun _ => none, fun _ => 0⟩, mem := [], w := w, S := St } :=
  ⟨Below.refl _ _, fun _ h => h, fun r hr => ⟨h r hr, .inl hr⟩, fun b => by unfold MemAt; simp [blkAt], fun b r hb => by obtain ⟨h1, _⟩ := hb; simp [blkAt, ownedB] at h1, fun b b' r hb => by obtain ⟨h1, _⟩ := hb; simp [blkAt, ownedB] at h1⟩

theorem run_calls (hP : ProgOk C) (hL : LoopsOk C) {d : Nat} {f : FuncId} {fn : Func} (hf : C.P.funcs[f]? = some fn) {I O : Sig} {x : DenS I} {y : DenS O} (h : run C d f fn I O x = some y)
    {w : World} {St : Nat → Prop} {ys : List Value} (hSt : ∀ q, St q → q < w.heap.size) (hG : GlobsOk C.globs w St) (hx : SRep w St I x ys) :
    Calls C.P f ys.toArray w fun e w' => ∃ zs, e = .returned (resOf zs) ∧ Below w.heap.size w w' ∧ SRep w' (fun q => St q ∨ (w.heap.size ≤ q ∧ q < w'.heap.size)) O y zs := by
  unfold run at h
  split at h
  · rename_i args ea
    have hargs := svsOf_ok (σ := { E := ⟨fun _ => none, fun _ => 0⟩, mem := [], w := w, S := St }) hx ea
    obtain ⟨_, hc⟩ := bodyRun_ok hP hL (inlRun_ok hP hL d) (lp := Nat.ble 2 d) (fun hl => by
      have : 2 ≤ d := by simpa using hl
      exact ⟨d - 2, by rw [show d - 2 + 2 = d by omega]⟩) hf h (start_ok hSt) rfl hG hargs
    refine hc.mono fun e w' he => ?_
    obtain ⟨σ', rs, zs, rfl, rfl, k1, k2, k3, k4⟩ := he
    cases hz : freezeSVs σ'.mem rs with
    | mk rs' m1 =>
      rw [hz] at k4
      simp only at k4
      obtain ⟨σ1, a1, a2, a3, a4, a5, a6⟩ := freezeSVs_ok k1 hz
      refine ⟨zs, rfl, k1.below, ?_⟩
      have := parseS_ok (a6 _ k3) k4
      rw [a2] at this
      refine this.mono (fun q hq => ?_) (fun _ _ => rfl)
      have hq' := a4.stab q hq
      rw [a2] at hq'
      rcases hq'.2 with h | h
      · exact .inl h
      · exact .inr ⟨h, hq'.1⟩
  · cases h

/-- what is computed is what is called -/
theorem sound_of (hP : ProgOk C) (hL : LoopsOk C) (d : Nat) (f : FuncId) (fn : Func) (hf : C.P.funcs[f]? = some fn) (hb : fn.body.isNone = false) (hn : (fn.name == "runtime.NumGoroutine") = false) (S : Sum)
    (h : ∀ x, S.pre x = true → run C d f fn S.ins S.outs x = some (S.F x)) : Sound C.P C.globs f S :=
  ⟨⟨fn, hf, hb, hn⟩, fun x hx0 _ _ _ hSt hG hx => run_calls hP hL hf (h x hx0) hSt hG hx⟩

end Vx
