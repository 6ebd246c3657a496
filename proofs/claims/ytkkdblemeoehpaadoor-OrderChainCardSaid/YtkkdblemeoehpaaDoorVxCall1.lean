/- Calls of builtins. -/
import Derived.Test.YtkkdblemeoehpaaDoorVxOps8
namespace Vx
open Go Go.RowKit

variable {C : Cfg} {base : World} {S0 : Nat → Prop} {σ : Sit} {s : St} {a : Act} {ctx : List (Nat × Bool)} {o : Oper} {x : TV} {mem' : Mem}

theorem run_builtin {P : Program} {c : Call} {b : Builtin} (hop : o.op = .call c) (hc : c.callee = .builtin b) (w : World) :
    ∃ cs : Array Bool, (execOp a.eval o).run P w = (builtin b c.argTypes o.type cs (c.args.map a.eval)).run P w := by
  simp only [execOp, hop, resolve, hc]
  simp only [Sem.run_bind, Sem.run_pure, Result.andThen_ok, invoke]
  exact ⟨_, rfl⟩

theorem args_of {c : Call} {l : List Operand} (h : c.args.toList = l) : c.args.map a.eval = (l.map a.eval).toArray := by
  apply Array.toList_inj.1; simp [h]
theorem types_of {c : Call} {l : List TypeId} (h : c.argTypes.toList = l) : c.argTypes = l.toArray := by
  apply Array.toList_inj.1; simp [h]

theorem int_len {n : Nat} (h : n < lim) : wfV (.int .i64 (n : Int)) := by
  simp only [wfV, IntKind.min, IntKind.max, IntKind.signed, IntKind.bits]
  unfold lim at h
  simp
  omega

theorem op_len (ho : Ok base S0 σ) (hr : RelT σ s a) (hx : CtxOk a ctx) {c : Call} (hop : o.op = .call c) (hc : c.callee = .builtin .len) (h : plainOp C s ctx o = some (.ok true x mem')) : Good C base S0 id σ a o x mem' := by
  unfold plainOp at h
  rw [hop] at h
  simp only [hc] at h
  have hex : ∀ {y : Operand} {T : TypeId} {v : Value}, c.args.toList = [y] → c.argTypes.toList = [T] → (Builtin.len_ #[T] o.type #[a.eval y]).run C.P σ.w = .ok v σ.w → (execOp a.eval o).run C.P σ.w = .ok (.value v) σ.w :=
    fun h1 h2 hv => by
      obtain ⟨cs, hcs⟩ := run_builtin (a := a) (P := C.P) hop hc σ.w
      rw [hcs, args_of h1, types_of h2]
      simp only [builtin]
      exact run_v hv
  split at h
  · rename_i y T e1 e2
    split at h
    · rename_i n e hT
      cases hb : Nat.blt n 9223372036854775808 with
      | false => rw [hb] at h; cases h
      | true =>
        rw [hb] at h
        simp only [cond_true, Option.some.injEq, Res.ok.injEq, true_and] at h
        obtain ⟨rfl, rfl⟩ := h
        refine good_at (σ' := σ) (v := .int .i64 (n : Int)) (hex e1 e2 ?_) ho (Goes.refl σ).moves hr.mem ⟨rfl, int_len (by simpa [lim] using hb)⟩
        unfold Builtin.len_
        simp [run_und hT, goInt]
    · rename_i e hT
      split at h
      · rename_i q eq
        split at h
        · cases h
        · rename_i hns
          split at h
          · rename_i n en
            simp only [Option.some.injEq, Res.ok.injEq, true_and] at h
            obtain ⟨rfl, rfl⟩ := h
            have hq := ev1_ok hr hx eq
            rw [← hr.mem] at en
            obtain ⟨A, k, hy⟩ := lenOf_ok hq (fun str e => hns str e) en
            refine good_at (σ' := σ) (v := .int .i64 (n : Int)) (hex e1 e2 ?_) ho (Goes.refl σ).moves hr.mem ⟨rfl, int_len (lenOf_lim ho hq en)⟩
            rw [hy]
            unfold Builtin.len_
            simp [run_und hT, goInt]
          · cases h
      · cases h
    · rename_i hT
      split at h
      · rename_i str es
        simp only [Option.some.injEq, Res.ok.injEq, true_and] at h
        obtain ⟨rfl, rfl⟩ := h
        obtain ⟨hy, hl⟩ := ev1_ok hr hx es
        refine good_at (σ' := σ) (v := .int .i64 (str.size : Int)) (hex e1 e2 ?_) ho (Goes.refl σ).moves hr.mem ⟨rfl, int_len hl⟩
        rw [hy]
        unfold Builtin.len_
        simp [run_und hT, goInt]
      · cases h
    · cases h
  · cases h

theorem op_min (ho : Ok base S0 σ) (hr : RelT σ s a) (hx : CtxOk a ctx) {c : Call} (hop : o.op = .call c) (hc : c.callee = .builtin .min) (h : plainOp C s ctx o = some (.ok true x mem')) : Good C base S0 id σ a o x mem' := by
  unfold plainOp at h
  rw [hop] at h
  simp only [hc] at h
  split at h
  · rename_i y z e1
    split at h
    · rename_i k p k' q ep eq
      split at h
      · rename_i hk
        subst hk
        simp only [Option.some.injEq, Res.ok.injEq, true_and] at h
        obtain ⟨rfl, rfl⟩ := h
        obtain ⟨hp, wp⟩ := ev1_ok hr hx ep
        obtain ⟨hq, wq⟩ := ev1_ok hr hx eq
        refine good_at (σ' := σ) (v := .int k' (if q < p then q else p)) ?_ ho (Goes.refl σ).moves hr.mem ⟨rfl, ?_⟩
        · obtain ⟨cs, hcs⟩ := run_builtin (a := a) (P := C.P) hop hc σ.w
          rw [hcs, args_of e1]
          simp only [builtin]
          refine run_v ?_
          simp only [Builtin.min_, List.map_cons, List.map_nil, hp, hq]
          simp [Builtin.min2]
        · split
          · exact wq
          · exact wp
      · cases h
    · cases h
  · cases h

theorem op_max (ho : Ok base S0 σ) (hr : RelT σ s a) (hx : CtxOk a ctx) {c : Call} (hop : o.op = .call c) (hc : c.callee = .builtin .max) (h : plainOp C s ctx o = some (.ok true x mem')) : Good C base S0 id σ a o x mem' := by
  unfold plainOp at h
  rw [hop] at h
  simp only [hc] at h
  split at h
  · rename_i y z e1
    split at h
    · rename_i k p k' q ep eq
      split at h
      · rename_i hk
        subst hk
        simp only [Option.some.injEq, Res.ok.injEq, true_and] at h
        obtain ⟨rfl, rfl⟩ := h
        obtain ⟨hp, wp⟩ := ev1_ok hr hx ep
        obtain ⟨hq, wq⟩ := ev1_ok hr hx eq
        refine good_at (σ' := σ) (v := .int k' (if q > p then q else p)) ?_ ho (Goes.refl σ).moves hr.mem ⟨rfl, ?_⟩
        · obtain ⟨cs, hcs⟩ := run_builtin (a := a) (P := C.P) hop hc σ.w
          rw [hcs, args_of e1]
          simp only [builtin]
          refine run_v ?_
          simp only [Builtin.max_, List.map_cons, List.map_nil, hp, hq]
          simp [Builtin.max2]
        · split
          · exact wq
          · exact wp
      · cases h
    · cases h
  · cases h

theorem ptrsOf_ok : ∀ {l : List SV} {ys : List Value} {cl : List (Nat × Nat)}, All2 (RepV σ) l ys → ptrsOf σ.mem l = some cl →
    (∀ p ∈ cl, p.1 < σ.mem.length) ∧ ∃ rs : List Nat, cl.map (fun p => σ.E.β p.1) = rs.map some ∧ ys = (cl.zip rs).map fun q => Value.pointer (some ⟨q.2, q.1.2, none⟩)
  | [], _, cl, .nil, h => by simp [ptrsOf] at h; subst h; exact ⟨by simp, [], rfl, rfl⟩
  | .one (.ptr b off) :: r, _, cl, .cons hc ht, h => by
    simp only [ptrsOf] at h
    split at h
    · rename_i cs l e1 e2
      cases h
      obtain ⟨g1, rs, g2, g3⟩ := ptrsOf_ok ht e2
      obtain ⟨q, hq, hy⟩ := RepC.ptr_raw hc e1
      refine ⟨?_, q :: rs, ?_, ?_⟩
      · intro p hp
        rcases List.mem_cons.1 hp with rfl | hp
        · exact hc.1
        · exact g1 p hp
      · simp [hq, g2]
      · simp [hy, g3]
    · cases h
  | .one .undef :: _, _, _, _, h => by simp [ptrsOf] at h
  | .one (.v _) :: _, _, _, _, h => by simp [ptrsOf] at h
  | .one (.fl _ _) :: _, _, _, _, h => by simp [ptrsOf] at h
  | .one (.sl _ _) :: _, _, _, _, h => by simp [ptrsOf] at h
  | .one (.own _) :: _, _, _, _, h => by simp [ptrsOf] at h
  | .one (.eptr _ _ _) :: _, _, _, _, h => by simp [ptrsOf] at h
  | .one (.iptr _ _ _) :: _, _, _, _, h => by simp [ptrsOf] at h
  | .one (.gptr _) :: _, _, _, _, h => by simp [ptrsOf] at h
  | .one (.fnv _) :: _, _, _, _, h => by simp [ptrsOf] at h
  | .one (.fn _ _) :: _, _, _, _, h => by simp [ptrsOf] at h
  | .agg _ :: _, _, _, _, h => by simp [ptrsOf] at h

theorem op_makeFunc (ho : Ok base S0 σ) (hr : RelT σ s a) (hx : CtxOk a ctx) {fn : Fn} {first captured : Array Operand} (hop : o.op = .makeFunc fn first captured) (h : plainOp C s ctx o = some (.ok true x mem')) : Good C base S0 id σ a o x mem' := by
  unfold plainOp at h
  rw [hop] at h
  simp only at h
  split at h
  · rename_i f hf
    split at h
    · rename_i vs ev
      split at h
      · rename_i cl ecl
        simp only [Option.some.injEq, Res.ok.injEq, true_and] at h
        obtain ⟨rfl, rfl⟩ := h
        rw [← hr.mem] at ecl
        obtain ⟨g1, rs, g2, g3⟩ := ptrsOf_ok (evVs_ok hr hx ev) ecl
        have e1 : first.map a.eval = #[] := by apply Array.toList_inj.1; simp [hf]
        have e2 : captured.map a.eval = ((cl.zip rs).map fun q => Value.pointer (some ⟨q.2, q.1.2, none⟩)).toArray := by
          apply Array.toList_inj.1; simpa using g3
        refine good_at (σ' := σ) (v := .func (.func f) #[] ((cl.zip rs).map fun q => Value.pointer (some ⟨q.2, q.1.2, none⟩)).toArray) ?_ ho (Goes.refl σ).moves hr.mem ⟨g1, trivial, .inr ⟨rs, g2, rfl⟩⟩
        simp only [execOp, hop, e1, e2]
        exact run_v rfl
      · cases h
    · cases h
  · cases h

end Vx
