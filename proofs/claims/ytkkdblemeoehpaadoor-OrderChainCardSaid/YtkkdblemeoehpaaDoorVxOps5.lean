/- Plain operations, each by its own theorem. -/
import Derived.Test.YtkkdblemeoehpaaDoorVxOps4
namespace Vx
open Go Go.RowKit

def GlobOk (C : Cfg) (w : World) (S : Nat → Prop) : Prop :=
  ∀ g τ xs, C.glob g = some ⟨τ, xs⟩ → S g ∧ ∃ vs T fz, w.heap[g]? = some (.cells vs T fz) ∧ Rows w S τ vs 0 xs

variable {C : Cfg} {base : World} {S0 : Nat → Prop} {σ : Sit} {s : St} {a : Act} {ctx : List (Nat × Bool)} {o : Oper} {x : TV} {mem' : Mem}

theorem op_move (ho : Ok base S0 σ) (hr : RelT σ s a) (hx : CtxOk a ctx) {y : Operand} (hop : o.op = .move y ∨ o.op = .assign y) (h : plainOp C s ctx o = some (.ok true x mem')) : Good C base S0 id σ a o x mem' := by
  have h' : ev s ctx y = some x ∧ mem' = s.mem := by
    unfold plainOp at h
    rcases hop with hop | hop <;> (rw [hop] at h; simp only at h; split at h) <;> first | (rename_i e; cases h; exact ⟨e, rfl⟩) | cases h
  refine good_at (σ' := σ) (v := a.eval y) ?_ ho (Goes.refl σ).moves (hr.mem.trans h'.2.symm) (ev_ok hr hx h'.1)
  rcases hop with hop | hop <;> simp [execOp, hop]

theorem op_pick (ho : Ok base S0 σ) (hr : RelT σ s a) (hx : CtxOk a ctx) {c A B : Operand} (hop : o.op = .pick c A B) (h : plainOp C s ctx o = some (.ok true x mem')) : Good C base S0 id σ a o x mem' := by
  unfold plainOp at h
  rw [hop] at h
  simp only at h
  cases c with
  | tmp t =>
    simp only at h
    split at h
    · rename_i cb bx bz e1 e2 e3
      obtain ⟨h1, h2⟩ := pick_ok hr hx e1 e2 e3
      have hm : mem' = s.mem ∧ x = .val (.one (.v (.bool (bif cb then bx else bz)))) := by
        split at h
        · cases bx with
          | true => simp only [Option.some.injEq, Res.ok.injEq, true_and] at h; obtain ⟨rfl, rfl⟩ := h; exact ⟨rfl, by cases cb <;> rfl⟩
          | false => simp only [Option.some.injEq, Res.ok.injEq, true_and] at h; obtain ⟨rfl, rfl⟩ := h; exact ⟨rfl, rfl⟩
        · cases bz with
          | true => simp only [Option.some.injEq, Res.ok.injEq, true_and] at h; obtain ⟨rfl, rfl⟩ := h; exact ⟨rfl, rfl⟩
          | false => simp only [Option.some.injEq, Res.ok.injEq, true_and] at h; obtain ⟨rfl, rfl⟩ := h; exact ⟨rfl, by cases cb <;> cases bx <;> rfl⟩
        · simp only [Option.some.injEq, Res.ok.injEq, true_and] at h; obtain ⟨rfl, rfl⟩ := h; exact ⟨rfl, rfl⟩
      refine good_at (σ' := σ) (v := .bool (bif cb then bx else bz)) ?_ ho (Goes.refl σ).moves (hr.mem.trans hm.1.symm) (by rw [hm.2]; exact ⟨rfl, trivial⟩)
      simp only [execOp, hop]
      rw [h1]
      simp only [asBool]
      simp
      exact h2
    · cases h
  | const _ => cases h
  | global _ => cases h
  | func _ => cases h

theorem op_alloc (ho : Ok base S0 σ) (hr : RelT σ s a) {T : TypeId} (hop : o.op = .alloc T) (h : plainOp C s ctx o = some (.ok true x mem')) : Good C base S0 id σ a o x mem' := by
  unfold plainOp at h
  rw [hop] at h
  simp only at h
  have hex : ∀ z, (zeroValue T).run C.P σ.w = .ok z σ.w → (execOp a.eval o).run C.P σ.w = .ok (.value (.pointer (some ⟨σ.w.heap.size, 0, none⟩))) (σ.w.alloc (.cells z.cells T)) := fun z hz => by
    simp only [execOp, hop, Instr.alloc]
    simp [hz, run_newVar]
  split at h
  · rename_i z n e hz hT
    obtain ⟨zv, h1, h2⟩ := zeroSV_ok (σ := σ) hz
    split at h
    · rename_i τ eτ
      split at h
      · rename_i xs exs
        simp only [Option.some.injEq, Res.ok.injEq, true_and] at h
        obtain ⟨rfl, rfl⟩ := h
        obtain ⟨g1, g2, g3, hlim⟩ := rows_of_many h1.cells exs
        · obtain ⟨k1, k2, k3, k4⟩ := arr_push ho (T := T) hlim g2 g3
          refine good_at (σ' := σ.push (.arr τ xs) (.cells zv.cells T) 0) (hex zv (h2 _)) k1 k2.moves (by simp [Sit.push, hr.mem]) ?_
          rw [← hr.mem]
          exact ptr_of_arr (by simp [Sit.push]) k3 k4
      · cases h
    · cases h
  · rename_i z _ _ hz hT
    obtain ⟨zv, h1, h2⟩ := zeroSV_ok (σ := σ) hz
    simp only [Option.some.injEq, Res.ok.injEq, true_and] at h
    obtain ⟨rfl, rfl⟩ := h
    obtain ⟨k1, k2, k3⟩ := raw_push ho (T := T) h1
    refine good_at (σ' := σ.push (.raw z.cells) (.cells zv.cells T) 0) (hex zv (h2 _)) k1 k2.moves (by simp [Sit.push, hr.mem]) ?_
    rw [← hr.mem]
    exact k3
  · cases h

theorem op_box (ho : Ok base S0 σ) (hr : RelT σ s a) (hx : CtxOk a ctx) {T : TypeId} {y : Operand} (hop : o.op = .box T y) (h : plainOp C s ctx o = some (.ok true x mem')) : Good C base S0 id σ a o x mem' := by
  unfold plainOp at h
  rw [hop] at h
  simp only at h
  have hex : (execOp a.eval o).run C.P σ.w = .ok (.value (.pointer (some ⟨σ.w.heap.size, 0, none⟩))) (σ.w.alloc (.cells (a.eval y).cells T)) := by
    simp only [execOp, hop, Instr.box]
    simp [run_newVar]
  split at h
  · rename_i z n e hz hT
    have h1 := evV_ok hr hx hz
    split at h
    · rename_i τ eτ
      split at h
      · rename_i xs exs
        simp only [Option.some.injEq, Res.ok.injEq, true_and] at h
        obtain ⟨rfl, rfl⟩ := h
        obtain ⟨g1, g2, g3, hlim⟩ := rows_of_many h1.cells exs
        · obtain ⟨k1, k2, k3, k4⟩ := arr_push ho (T := T) hlim g2 g3
          refine good_at (σ' := σ.push (.arr τ xs) (.cells (a.eval y).cells T) 0) hex k1 k2.moves (by simp [Sit.push, hr.mem]) ?_
          rw [← hr.mem]
          exact ptr_of_arr (by simp [Sit.push]) k3 k4
      · cases h
    · cases h
  · rename_i z _ _ hz hT
    have h1 := evV_ok hr hx hz
    simp only [Option.some.injEq, Res.ok.injEq, true_and] at h
    obtain ⟨rfl, rfl⟩ := h
    obtain ⟨k1, k2, k3⟩ := raw_push ho (T := T) h1
    refine good_at (σ' := σ.push (.raw z.cells) (.cells (a.eval y).cells T) 0) hex k1 k2.moves (by simp [Sit.push, hr.mem]) ?_
    rw [← hr.mem]
    exact k3
  · cases h

theorem build_run {P : Program} {σ : Sit} {T : TypeId} {parts : List (Nat × SV)} {qs : List (Nat × Value)} {z : SV} {cs : List SC} {place : Nat → Option (Nat × Nat)} (hz : zeroSV P T = some z)
    (hps : All2 (fun p q => p.1 = q.1 ∧ RepV σ p.2 q.2) parts qs) (h : svSplice place parts z.cells = some cs) (hb : ∀ zv i, P.info? T = some i → i.zero = some zv → P.built T qs = Instr.fill place zv.cells qs) (w : World) :
    ∃ v, (Instr.build T qs.toArray).run P w = .ok v w ∧ RepV σ (.agg cs) v := by
  obtain ⟨i, zv, h1, h2, h3⟩ := zeroSV_parts hz
  obtain ⟨vs', h4, h5⟩ := fill_ok place h (h3 σ).cells (hps.mono fun p q hpq => ⟨hpq.1, hpq.2.cells⟩)
  exact ⟨.agg vs', run_build w T qs.toArray vs' (by simpa using (hb zv i h1 h2).trans h4), vs'.toList, by simp, h5⟩

theorem op_build (ho : Ok base S0 σ) (hr : RelT σ s a) (hx : CtxOk a ctx) {T : TypeId} {parts : Array (Nat × Operand)} (hop : o.op = .build T parts) (h : plainOp C s ctx o = some (.ok true x mem')) : Good C base S0 id σ a o x mem' := by
  unfold plainOp at h
  rw [hop] at h
  simp only at h
  have hparts : (parts.map fun (i, x) => (i, a.eval x)) = (parts.toList.map fun p => (p.1, a.eval p.2)).toArray := by
    apply Array.toList_inj.1; simp
  split at h
  · rename_i z ps fs hz hps hT
    cases hb : fs.toList.all (fun f => (C.P.info? f.type).isSome) with
    | false => rw [hb] at h; cases h
    | true =>
      rw [hb] at h
      simp only [cond_true] at h
      split at h
      · rename_i cs ecs
        simp only [Option.some.injEq, Res.ok.injEq, true_and] at h
        obtain ⟨rfl, rfl⟩ := h
        obtain ⟨v, h1, h2⟩ := build_run (P := C.P) (σ := σ) hz (evParts_ok hr hx hps) ecs (fun zv i hi hzv => by
          unfold Program.built
          simp only [hi, hT, hzv, places_eq hb]
          congr 1
          funext i
          simp only [List.getElem?_toArray, List.getElem?_map]
          cases fs.toList[i]? <;> rfl) σ.w
        exact good_at (σ' := σ) (v := v) (by simp only [execOp, hop]; rw [hparts]; exact run_v h1) ho (Goes.refl σ).moves hr.mem h2
      · cases h
  · rename_i z ps n e hz hps hT
    cases hb : (C.P.info? e).isSome with
    | false => rw [hb] at h; cases h
    | true =>
      rw [hb] at h
      simp only [cond_true] at h
      split at h
      · rename_i cs ecs
        simp only [Option.some.injEq, Res.ok.injEq, true_and] at h
        obtain ⟨rfl, rfl⟩ := h
        obtain ⟨ie, hie⟩ := Option.isSome_iff_exists.1 hb
        obtain ⟨v, h1, h2⟩ := build_run (P := C.P) (σ := σ) hz (evParts_ok hr hx hps) ecs (fun zv i hi hzv => by
          unfold Program.built
          simp only [hi, hT, hzv, hie]
          simp [Program.cellsOf, hie]) σ.w
        exact good_at (σ' := σ) (v := v) (by simp only [execOp, hop]; rw [hparts]; exact run_v h1) ho (Goes.refl σ).moves hr.mem h2
      · cases h
  · cases h

theorem op_buildSlice (ho : Ok base S0 σ) (hr : RelT σ s a) (hx : CtxOk a ctx) {T : TypeId} {n : Nat} {parts : Array (Nat × Operand)} (hop : o.op = .buildSlice T n parts) (h : plainOp C s ctx o = some (.ok true x mem')) : Good C base S0 id σ a o x mem' := by
  unfold plainOp at h
  rw [hop] at h
  simp only at h
  have hparts : (parts.map fun (i, x) => (i, a.eval x)).toList = (parts.toList.map fun p => (p.1, a.eval p.2)) := by simp
  split at h
  · rename_i e hT
    split at h
    · rename_i τ z ps eτ hz hps
      split at h
      · rename_i cs ecs
        cases hf : freezeL s.mem cs with
        | mk cs' m1 =>
          rw [hf] at h
          simp only at h
          split at h
          · rename_i xs exs
            cases hb : (Nat.ble (n * C.P.cellsOf e) 16777216 && Nat.blt 0 (C.P.cellsOf e) && lenIs (C.P.cellsOf e) z.cells && Nat.blt 0 n) with
            | false => rw [hb] at h; cases h
            | true =>
              rw [hb] at h
              simp only [Bool.and_eq_true] at hb
              simp only [cond_true, Option.some.injEq, Res.ok.injEq, true_and] at h
              obtain ⟨rfl, rfl⟩ := h
              have hle := Nat.le_of_ble_eq_true hb.1.1.1
              have hpos : 0 < C.P.cellsOf e := by simpa using hb.1.1.2
              obtain ⟨i, zv, hi, hzv, hzr⟩ := zeroSV_parts hz
              obtain ⟨hmany, hn⟩ := many_eq exs
              have hw := elemSh_ok eτ
              have hzsz : zv.cells.size = C.P.cellsOf e := by
                have := (hzr σ).cells.length
                rw [lenIs_eq hb.1.2] at this
                simpa using this.symm
              have hmade := flatten_made (hzr σ).cells (by omega) n
              rw [hzsz] at hmade
              obtain ⟨vs', f1, f2⟩ := fill_ok _ ecs hmade ((evParts_ok hr hx hps).mono fun p q hpq => ⟨hpq.1, hpq.2.cells⟩)
              rw [← hr.mem] at hf
              obtain ⟨σ1, a1, a2, a3, a4, a5, a6⟩ := freezeL_ok ho hf
              have hcells := a6 _ f2
              obtain ⟨g1, g2, g3⟩ := parseMany_rep hcells hmany
              have hsize : (Go.sizeOf e).run C.P σ.w = .ok (C.P.cellsOf e) σ.w := run_size ⟨i, hi⟩
              have hrun : (Instr.buildSlice T n (parts.map fun (i, x) => (i, a.eval x))).run C.P σ.w = .ok (.slice (some ⟨σ.w.heap.size, 0, none⟩) n n) (σ.w.alloc (.cells vs' e)) := by
                have hz0 : (zeroValue e).run C.P σ.w = .ok zv σ.w := by simp [zeroValue, typeInfo, hi, hzv]
                have h24 : ¬ n * C.P.cellsOf e > 2 ^ 24 := by omega
                unfold Instr.buildSlice
                simp only [Sem.run_bind, run_und hT, Result.andThen_ok, hsize]
                rw [if_neg h24]
                have hn0 : 0 < n := by simpa using hb.2
                have hz1 : ¬ n * C.P.cellsOf e = 0 := Nat.ne_of_gt (Nat.mul_pos hn0 hpos)
                have hm0 : (Array.range (n * C.P.cellsOf e)).map (zv.cells[· % zv.cells.size]!) = madeCells zv.cells (n * C.P.cellsOf e) := rfl
                simp only [if_neg hz1, Sem.run_bind, hz0, Sem.run_pure, Result.andThen_ok, hm0, hparts, f1]
                simp [newRow]
              have hfg := fresh_goes a4 (.cells vs' e)
              refine good_at (σ' := σ1.fresh (.cells vs' e)) (v := .slice (some ⟨σ.w.heap.size, 0, none⟩) n n) ?_ (fresh_ok a4 _) (a5.trans hfg).moves a1 ?_
              · simp only [execOp, hop]
                have : (σ1.fresh (.cells vs' e)).w = σ.w.alloc (.cells vs' e) := by simp [Sit.fresh, a2]
                rw [this]
                exact run_v hrun
              · refine ⟨_, n, by rw [g1], by omega, by have := big_lim; omega, fun _ => ⟨σ.w.heap.size, 0, vs', e, (0, 0), rfl, .inr (by rw [a2]), ?_, ?_⟩⟩
                · simp only [Sit.fresh, a2]; exact heap_alloc_new
                · intro i x hix
                  obtain ⟨ds, d1, d2⟩ := g3 i x hix
                  exact ⟨ds, d1.mono hfg.stab hfg.heap, fun j d hj => by simpa using d2 j d hj⟩
          · cases h
      · cases h
    · cases h
  · cases h

theorem op_load (ho : Ok base S0 σ) (hr : RelT σ s a) (hx : CtxOk a ctx) {T : TypeId} {y : Operand} (hop : o.op = .load T y) (h : plainOp C s ctx o = some (.ok true x mem')) : Good C base S0 id σ a o x mem' := by
  unfold plainOp at h
  rw [hop] at h
  simp only at h
  split at h
  · rename_i c ec
    have hc := ev1_ok hr hx ec
    split at h
    · rename_i cs off e1 e2
      have hl := cellsAt_ok ho hc (by rw [hr.mem]; exact e1)
      split at h
      · rename_i l e3
        simp only [Option.some.injEq, Res.ok.injEq, true_and] at h
        obtain ⟨rfl, rfl⟩ := h
        obtain ⟨v, h1, h2⟩ := load_agg hl e2 e3
        exact good_at (σ' := σ) (v := v) (by simp only [execOp, hop]; exact run_v h1) ho (Goes.refl σ).moves hr.mem h2
      · cases h
    · rename_i cs off e1 e2
      have hl := cellsAt_ok ho hc (by rw [hr.mem]; exact e1)
      split at h
      · rename_i c' l e3
        simp only [Option.some.injEq, Res.ok.injEq, true_and] at h
        obtain ⟨rfl, rfl⟩ := h
        obtain ⟨v, h1, h2⟩ := load_one hl e2 e3
        exact good_at (σ' := σ) (v := v) (by simp only [execOp, hop]; exact run_v h1) ho (Goes.refl σ).moves hr.mem h2
      · cases h
    · cases h
  · cases h

theorem op_binOp (ho : Ok base S0 σ) (hr : RelT σ s a) (hx : CtxOk a ctx) {op : BinOp} {T T' : TypeId} {y z : Operand} (hop : o.op = .binOp op T y z T') (h : plainOp C s ctx o = some (.ok true x mem')) : Good C base S0 id σ a o x mem' := by
  unfold plainOp at h
  rw [hop] at h
  simp only at h
  split at h
  · rename_i c d e1 e2
    have h1 := evV_ok hr hx e1
    have h2 := evV_ok hr hx e2
    cases hb : okBoolT C.P T c with
    | false => rw [hb] at h; cases h
    | true =>
      rw [hb] at h
      simp only [cond_true] at h
      split at h
      · rename_i g r e3
        simp only [Option.some.injEq, Res.ok.injEq] at h
        obtain ⟨rfl, rfl, rfl⟩ := h
        obtain ⟨v, h3, h4⟩ := binV_ok (P := C.P) (X := y) (Y := z) (T := T) (w := σ.w) (by
          cases c with
          | v q => cases q with
            | bool b => exact .inl hb
            | _ => exact .inr (by simp)
          | _ => exact .inr (by simp)) h1 h2 e3
        exact good_at (σ' := σ) (v := v) (by simp only [execOp, hop]; exact run_v h3) ho (Goes.refl σ).moves hr.mem h4
      · cases h
  · rename_i c d e1 e2
    have h1 := evV_ok hr hx e1
    have h2 := evV_ok hr hx e2
    split at h
    · rename_i fs hT
      cases hb : (!(C.P.eqGuardType C.P.depth T) && !(C.P.stoodInHeld T)) with
      | false => rw [hb] at h; cases h
      | true =>
        rw [hb] at h
        simp only [Bool.and_eq_true, Bool.not_eq_true'] at hb
        simp only [cond_true] at h
        split at h
        · rename_i r e3
          simp only [Option.some.injEq, Res.ok.injEq, true_and] at h
          obtain ⟨rfl, rfl⟩ := h
          have := (eqAgg_ok (X := y) (Y := z) (w := σ.w) hT hb.1 hb.2 h1 h2 e3).1
          exact good_at (σ' := σ) (v := .bool r) (by simp only [execOp, hop]; exact run_v this) ho (Goes.refl σ).moves hr.mem ⟨rfl, trivial⟩
        · rename_i r e3
          simp only [Option.some.injEq, Res.ok.injEq, true_and] at h
          obtain ⟨rfl, rfl⟩ := h
          have := (eqAgg_ok (X := y) (Y := z) (w := σ.w) hT hb.1 hb.2 h1 h2 e3).2
          exact good_at (σ' := σ) (v := .bool !r) (by simp only [execOp, hop]; exact run_v this) ho (Goes.refl σ).moves hr.mem ⟨rfl, trivial⟩
        · cases h
    · cases h
  · cases h

end Vx
