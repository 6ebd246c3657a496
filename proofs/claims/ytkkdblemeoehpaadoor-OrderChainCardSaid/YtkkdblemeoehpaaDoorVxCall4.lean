/- Calls of functions that are known by what they compute. -/
import Derived.Test.YtkkdblemeoehpaaDoorVxCall3
namespace Vx
open Go Go.RowKit

def GlobsOk (G : List (Nat × Sigma fun τ => List (Den τ))) (w : World) (S : Nat → Prop) : Prop :=
  ∀ g τ xs, findGlob G g = some ⟨τ, xs⟩ → S g ∧ ∃ vs T fz, w.heap[g]? = some (.cells vs T fz) ∧ Rows w S τ vs 0 xs

theorem globOk_of {C : Cfg} {w : World} {S : Nat → Prop} (h : GlobsOk C.globs w S) : GlobOk C w S := h

theorem GlobsOk.mono {G : List (Nat × Sigma fun τ => List (Den τ))} {w w' : World} {S S' : Nat → Prop} (hS : ∀ r, S r → S' r) (hH : ∀ r, S r → w'.heap[r]? = w.heap[r]?) (h : GlobsOk G w S) : GlobsOk G w' S' := fun g τ xs e => by
  obtain ⟨h1, vs, T, fz, h2, h3⟩ := h g τ xs e
  exact ⟨hS g h1, vs, T, fz, (hH g h1).trans h2, h3.mono hS hH⟩

def SRep (w : World) (S : Nat → Prop) : (sg : Sig) → DenS sg → List Value → Prop
  | [], _, ys => ys = []
  | (a, τ) :: r, x, ys => ∃ y ys', ys = y :: ys' ∧ (match a with
      | true => ∃ cs : List Value, y = .agg cs.toArray ∧ DRep w S τ x.1 cs
      | false => DRep w S τ x.1 [y]) ∧ SRep w S r x.2 ys'

theorem SRep.mono {w w' : World} {S S' : Nat → Prop} (hS : ∀ r, S r → S' r) (hH : ∀ r, S r → w'.heap[r]? = w.heap[r]?) : ∀ {sg : Sig} {x : DenS sg} {ys : List Value}, SRep w S sg x ys → SRep w' S' sg x ys
  | [], _, _, h => h
  | (true, _) :: _, _, _, ⟨y, ys', h1, ⟨cs, h2, h3⟩, h4⟩ => ⟨y, ys', h1, ⟨cs, h2, h3.mono hS hH⟩, h4.mono hS hH⟩
  | (false, _) :: _, _, _, ⟨y, ys', h1, h2, h4⟩ => ⟨y, ys', h1, DRep.mono hS hH h2, h4.mono hS hH⟩

theorem parseS_ok {σ : Sit} : ∀ {sg : Sig} {args : List SV} {ys : List Value} {x : DenS sg}, All2 (RepV σ) args ys → parseS sg args = some x → SRep σ.w σ.S sg x ys
  | [], [], _, _, .nil, _ => rfl
  | [], _ :: _, _, _, _, h => by simp [parseS] at h
  | _ :: _, [], _, _, _, h => by simp [parseS] at h
  | (a, τ) :: sg, z :: args, _, x, .cons (b := y) (bs := ys) hz ht, h => by
    simp only [parseS] at h
    cases z with
    | one c =>
      simp only at h
      cases a with
      | true => cases h
      | false =>
        simp only [cond_false] at h
        split at h
        · rename_i u eu
          split at h
          · rename_i v ev
            cases h
            obtain ⟨y1, y2, e, d, r⟩ := parse_rep (All2.cons hz All2.nil) eu
            cases r
            rw [List.append_nil] at e
            exact ⟨y, ys, rfl, by rw [e]; exact d, parseS_ok ht ev⟩
          · cases h
        · cases h
    | agg cs =>
      simp only at h
      cases a with
      | false => cases h
      | true =>
        simp only [cond_true] at h
        split at h
        · rename_i u eu
          split at h
          · rename_i v ev
            cases h
            obtain ⟨zs, e0, ha⟩ := hz
            obtain ⟨y1, y2, e, d, r⟩ := parse_rep ha eu
            cases r
            rw [List.append_nil] at e
            exact ⟨y, ys, rfl, ⟨zs, e0, by rw [e]; exact d⟩, parseS_ok ht ev⟩
          · cases h
        · cases h

theorem svsOf_ok {σ : Sit} : ∀ {sg : Sig} {x : DenS sg} {ys : List Value} {vs : List SV}, SRep σ.w σ.S sg x ys → svsOf sg x = some vs → All2 (RepV σ) vs ys
  | [], _, ys, vs, h, e => by simp only [svsOf] at e; cases e; rw [show ys = [] from h]; exact .nil
  | (a, τ) :: sg, x, _, vs, ⟨y, ys', rfl, h2, h3⟩, e => by
    simp only [svsOf] at e
    split at e
    · cases e
    · rename_i r er
      have ih := svsOf_ok h3 er
      cases a with
      | true =>
        simp only [cond_true, Option.some.injEq] at e
        subst e
        obtain ⟨cs, h4, h5⟩ := h2
        exact .cons ⟨cs, h4, cellsOf_rep h5⟩ ih
      | false =>
        simp only [cond_false] at e
        split at e
        · rename_i c ec
          cases e
          have := cellsOf_rep (σ := σ) h2
          rw [ec] at this
          cases this with
          | cons h _ => exact .cons h ih
        · cases e

def resOf : List Value → Value
  | [y] => y
  | ys => .tuple ys.toArray

structure Sound (P : Program) (G : List (Nat × Sigma fun τ => List (Den τ))) (f : FuncId) (S : Sum) : Prop where
  callable : ∃ fn, P.funcs[f]? = some fn ∧ fn.body.isNone = false ∧ (fn.name == "runtime.NumGoroutine") = false
  calls : ∀ x, S.pre x = true → ∀ (w : World) (St : Nat → Prop) (ys : List Value), (∀ q, St q → q < w.heap.size) → GlobsOk G w St → SRep w St S.ins x ys →
    Calls P f ys.toArray w fun e w' => ∃ zs, e = .returned (resOf zs) ∧ Below w.heap.size w w' ∧ SRep w' (fun q => St q ∨ (w.heap.size ≤ q ∧ q < w'.heap.size)) S.outs (S.F x) zs

/-- behind a call that leaves all old memory as it was -/
def Sit.later (σ : Sit) (w' : World) : Sit := { E := σ.E, mem := σ.mem, w := w', S := fun q => σ.S q ∨ (σ.w.heap.size ≤ q ∧ q < w'.heap.size) }

theorem later_ok {base : World} {S0 : Nat → Prop} {σ : Sit} (ho : Ok base S0 σ) {w' : World} (hb : Below σ.w.heap.size σ.w w') : Ok base S0 (σ.later w') ∧ Goes σ (σ.later w') := by
  have hg : Goes σ (σ.later w') := ⟨fun _ h => .inl h, fun r hr => hb.block r (ho.stab r hr).1, Nat.le_refl _, fun _ _ => Turns.refl rfl rfl rfl⟩
  refine ⟨⟨ho.below.trans ⟨hb.os, hb.tape, hb.output, hb.size, fun k hk => hb.block k (Nat.lt_of_lt_of_le hk ho.below.size)⟩, fun r h => .inl (ho.stab0 r h), fun r h => ?_, fun b => ?_, fun b r h => ?_, fun b b' r h h' => ho.inj b b' r h h'⟩, hg⟩
  · rcases h with h | h
    · exact ⟨Nat.lt_of_lt_of_le (ho.stab r h).1 hb.size, (ho.stab r h).2⟩
    · exact ⟨h.2, .inr (Nat.le_trans ho.below.size h.1)⟩
  · exact MemAt.keep hg rfl rfl rfl (fun r hr => hb.block r (ho.own b r hr).2.1) (ho.ent b)
  · have := ho.own b r h
    refine ⟨this.1, Nat.lt_of_lt_of_le this.2.1 hb.size, fun hs => ?_⟩
    rcases hs with hs | hs
    · exact this.2.2 hs
    · omega

def SumsOk (C : Cfg) : Prop := ∀ f S, C.sum f = some S → Sound C.P C.globs f S

theorem tvOf_ok {σ : Sit} {vs : List SV} {ys : List Value} (h : All2 (RepV σ) vs ys) : RepT σ (tvOf vs) (resOf ys) := by
  cases h with
  | nil => exact ⟨by simp, [], rfl, .nil⟩
  | cons h1 t =>
    cases t with
    | nil => exact h1
    | cons h2 t => exact ⟨by simp, _, rfl, .cons h1 (.cons h2 t)⟩

theorem run_callFunc {P : Program} {f : FuncId} (h : ∃ fn, P.funcs[f]? = some fn ∧ fn.body.isNone = false ∧ (fn.name == "runtime.NumGoroutine") = false) (args : Array Value) (w : World) : (callFunc f args).run P w = .ok (.enter f args) w := by
  obtain ⟨fn, h1, h2, h3⟩ := h
  unfold callFunc
  have h2' : ¬ fn.body = none := fun e => by rw [e] at h2; cases h2
  simp [h1]
  rw [if_neg (by simpa using h3), if_neg h2']

variable {C : Cfg} {base : World} {S0 : Nat → Prop} {σ : Sit} {s : St} {a : Act} {ctx : List (Nat × Bool)} {o : Oper} {x : TV} {mem' : Mem}

theorem op_sum (hC : SumsOk C) (ho : Ok base S0 σ) (hr : RelT σ s a) (hx : CtxOk a ctx) (hG : GlobsOk C.globs σ.w σ.S) {c : Call} {fo : Operand} (hop : o.op = .call c) (hc : c.callee = .value fo) (h : plainOp C s ctx o = some (.ok true x mem')) : Good C base S0 id σ a o x mem' := by
  unfold plainOp at h
  rw [hop] at h
  simp only [hc] at h
  split at h
  · rename_i f caps args ef eargs
    split at h
    · rename_i S eS
      have hcaps : caps = [] ∧ C.sum f = some S := by
        cases caps with
        | nil => exact ⟨rfl, eS⟩
        | cons _ _ => cases eS
      obtain ⟨rfl, hS⟩ := hcaps
      cases hf : freezeSVs s.mem args with
      | mk args' m1 =>
        rw [hf] at h
        simp only at h
        rw [← hr.mem] at hf
        obtain ⟨σ1, a1, a2, a3, a4, a5, a6⟩ := freezeSVs_ok ho hf
        split at h
        · rename_i z ez
          split at h
          · rename_i vs ev
            · simp only [Option.some.injEq, Res.ok.injEq] at h
              obtain ⟨hpre, rfl, rfl⟩ := h
              have hsr := parseS_ok (a6 _ (evVs_ok hr hx eargs)) ez
              obtain ⟨hcall, hcalls⟩ := hC f S hS
              have hfv : a.eval fo = .func (.func f) #[] #[] := by
                obtain ⟨_, _, h1⟩ := ev1_ok hr hx ef
                rcases h1 with ⟨p, hp, _⟩ | ⟨rs, h1, h2⟩
                · simp at hp
                · simpa using h2
              intro K Q hK
              have hexec : (execOp a.eval o).run C.P σ.w = .ok (.enter f (c.args.toList.map a.eval).toArray) σ.w := by
                simp only [execOp, hop, resolve, hc, hfv]
                simp only [Deferred.ofValue, Sem.run_bind, Sem.run_pure, Result.andThen_ok, invoke]
                rw [run_callFunc hcall]
                congr 2
                apply Array.toList_inj.1
                simp
              unfold Oper.wp
              rw [hexec, Oper.upon_enter]
              have hcl := hcalls z hpre σ1.w σ1.S _ (fun q hq => (a4.stab q hq).1) (by rw [a2]; exact GlobsOk.mono a5.stab (fun _ _ => rfl) hG) hsr
              rw [a2] at hcl
              refine hcl.mono fun e w' he => ?_
              obtain ⟨zs, rfl, hb, hz⟩ := he
              rw [← a2] at hb
              obtain ⟨k1, k2⟩ := later_ok a4 hb
              refine hK (resOf zs) (σ1.later w') k1 (a5.trans k2).moves a1 (tvOf_ok (svsOf_ok (σ := σ1.later w') ?_ ev))
              simp only [Sit.later, a2]
              exact hz
          · cases h
        · cases h
    · have h2 := (cond_some h).2; cases h2
  · cases h

theorem plainOp_ok (hC : SumsOk C) (ho : Ok base S0 σ) (hr : RelT σ s a) (hx : CtxOk a ctx) (hG : GlobsOk C.globs σ.w σ.S) (hna : ∀ c, o.op = .call c → c.callee ≠ .builtin .append) (h : plainOp C s ctx o = some (.ok true x mem')) : Good C base S0 id σ a o x mem' := by
  cases hop : o.op with
  | move y => exact op_move ho hr hx (.inl hop) h
  | assign y => exact op_move ho hr hx (.inr hop) h
  | pick c A B => exact op_pick ho hr hx hop h
  | alloc T => exact op_alloc ho hr hop h
  | box T y => exact op_box ho hr hx hop h
  | build T ps => exact op_build ho hr hx hop h
  | buildSlice T n ps => exact op_buildSlice ho hr hx hop h
  | load T y => exact op_load ho hr hx hop h
  | store T y z => exact op_store ho hr hx hop h
  | nilCheck y => exact op_nilCheck ho hr hx hop h
  | binOp op T y z T' => exact op_binOp ho hr hx hop h
  | unOp op T y => exact op_unOp ho hr hx hop h
  | convert T T' y => exact op_convert ho hr hx hop h
  | makeSlice T l c => exact op_makeSlice ho hr hx hop h
  | slice T y lo hi mx => exact op_slice ho hr hx hop h
  | fieldAddr T y i => exact op_fieldAddr ho hr hx hop h
  | field T y i => exact op_field ho hr hx hop h
  | indexAddr T y z => exact op_indexAddr ho hr hx (globOk_of hG) hop h
  | index T y z => exact op_index ho hr hx hop h
  | extract y i => exact op_extract ho hr hx hop h
  | makeFunc fn first captured => exact op_makeFunc ho hr hx hop h
  | call c =>
    cases hc : c.callee with
    | value fo => exact op_sum hC ho hr hx hG hop hc h
    | invoke r m => unfold plainOp at h; rw [hop] at h; simp only [hc] at h; cases h
    | builtin b =>
      cases b with
      | len => exact op_len ho hr hx hop hc h
      | min => exact op_min ho hr hx hop hc h
      | max => exact op_max ho hr hx hop hc h
      | append => exact absurd hc (hna c hop)
      | copy => exact op_copy ho hr hx hop hc h
      | _ => unfold plainOp at h; rw [hop] at h; simp only [hc] at h; cases h
  | _ => unfold plainOp at h; rw [hop] at h; simp only at h; cases h

end Vx
