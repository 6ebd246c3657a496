/- More plain operations. -/
import Derived.Test.YtkkdblemeoehpaaDoorVxOps5
namespace Vx
open Go Go.RowKit

variable {C : Cfg} {base : World} {S0 : Nat → Prop} {σ : Sit} {s : St} {a : Act} {ctx : List (Nat × Bool)} {o : Oper} {x : TV} {mem' : Mem}

theorem run_storeVar {P : Program} {T : TypeId} {r off : Nat} {v : Value} {w : World} {vs : Array Value} {T' : TypeId} (hh : w.heap[r]? = some (.cells vs T' (0, 0))) (hi : ∃ i, P.info? T = some i) (hsz : v.cells.size = P.cellsOf T)
    (hv : ∀ u ∈ v.cells.toList, scalar u) (hle : off + v.cells.size ≤ vs.size) :
    (Instr.storeAt T (.pointer (some ⟨r, off, none⟩)) v).run P w = .ok () (wset w r (.cells (putAt vs off v.cells.toList) T' (0, 0))) := by
  unfold Instr.storeAt storeVar Instr.sureAddr
  have h1 := run_storeCells (P := P) (r := r) (o := off) (T := T') v.cells.toList 0 w vs hh (by simpa using hle) hv
  simp [run_size hi, hsz]
  simpa using h1

theorem All2.allScalar {cs : List SC} {ys : List Value} (h : All2 (RepC σ) cs ys) : ∀ u ∈ ys, scalar u := by
  induction h with
  | nil => simp
  | cons h _ ih =>
    intro u hu
    rcases List.mem_cons.1 hu with rfl | hu
    · exact h.scalar
    · exact ih u hu

theorem RepC.ptr_raw {b off : Nat} {y : Value} {cs : List SC} (h : RepC σ (.ptr b off) y) (e : blkAt σ.mem b = .raw cs) : ∃ r, σ.E.β b = some r ∧ y = .pointer (some ⟨r, off, none⟩) := by
  obtain ⟨_, _, hm⟩ := h
  rw [e] at hm
  exact hm

theorem info_of_cells {P : Program} {T : TypeId} (h : P.cellsOf T ≠ 0) : ∃ i, P.info? T = some i := by
  unfold Program.cellsOf at h
  cases hq : P.info? T with
  | none => rw [hq] at h; exact absurd rfl h
  | some i => exact ⟨i, rfl⟩

theorem op_store (ho : Ok base S0 σ) (hr : RelT σ s a) (hx : CtxOk a ctx) {T : TypeId} {y z : Operand} (hop : o.op = .store T y z) (h : plainOp C s ctx o = some (.ok true x mem')) : Good C base S0 id σ a o x mem' := by
  unfold plainOp at h
  rw [hop] at h
  simp only at h
  split at h
  · rename_i b off v e1 e2
    have hp := ev1_ok hr hx e1
    have hv := evV_ok hr hx e2
    split at h
    · rename_i cs eb
      rw [← hr.mem] at eb
      cases hb : (lenIs (C.P.cellsOf T) v.cells && allDef v.cells && Nat.blt 0 (C.P.cellsOf T)) with
      | false => rw [hb] at h; cases h
      | true =>
        rw [hb] at h
        simp only [Bool.and_eq_true] at hb
        simp only [cond_true] at h
        split at h
        · rename_i cs' es
          simp only [Option.some.injEq, Res.ok.injEq, true_and] at h
          obtain ⟨rfl, rfl⟩ := h
          obtain ⟨r, hβ, hy⟩ := hp.ptr_raw eb
          have he := ho.ent b
          unfold MemAt at he
          rw [eb] at he
          obtain ⟨r', vs, T', h1, h2, h3⟩ := he
          rw [hβ] at h1; cases h1
          have hown : σ.owned b r := ⟨by rw [eb]; trivial, hβ⟩
          obtain ⟨k1, k2⟩ := All2.splice es h3 hv.cells
          have hlt : b < σ.mem.length := blkAt_lt (by rw [eb]; simp)
          have hrl := (ho.own b r hown).2.1
          obtain ⟨g1, g2⟩ := store_ok ho hown (e := .raw cs') (vs := putAt vs off (a.eval z).cells.toList) (T := T') (by rw [eb]; exact ⟨cs', rfl⟩) (fun hg => by
            unfold MemAt
            simp only [Sit.store]
            rw [blkAt_set hlt, if_pos rfl]
            exact ⟨r, _, T', hβ, heap_wset_eq hrl, k1.mono fun _ _ => hg.repC⟩)
          have hl := lenIs_eq hb.1.1
          have hcl := hv.cells.length
          have hsz : (a.eval z).cells.size = C.P.cellsOf T := by simp at hcl; omega
          have hpos : C.P.cellsOf T ≠ 0 := Nat.ne_of_gt (by simpa using hb.2)
          have hrun := run_storeVar (P := C.P) (T := T) (off := off) h2 (info_of_cells hpos) hsz hv.cells.allScalar (by simpa using k2)
          refine good_skip (σ' := σ.store b r (.raw cs') (putAt vs off (a.eval z).cells.toList) T') ?_ g1 g2.moves (by simp [Sit.store, hr.mem]) trivial
          simp only [execOp, hop, hy]
          simp only [Sem.run_bind, hrun, Result.andThen_ok, Sem.run_pure]
          rfl
        · cases h
    · cases h
  · rename_i b i off v e1 e2
    have hp := ev1_ok hr hx e1
    have hv := evV_ok hr hx e2
    cases hf : freezeSV s.mem v with
    | mk v' m1 =>
      rw [hf] at h
      simp only at h
      rw [← hr.mem] at hf
      obtain ⟨σ1, a1, a2, a3, a4, a5, a6⟩ := freezeSV_ok ho hf
      have hp1 := a5.repC hp
      have hv1 := a6 _ hv
      split at h
      · rename_i τ xs eb
        rw [← a1] at eb
        cases hb : (lenIs (C.P.cellsOf T) v'.cells && allDef v'.cells && Nat.blt 0 (C.P.cellsOf T)) with
        | false => rw [hb] at h; cases h
        | true =>
          rw [hb] at h
          simp only [Bool.and_eq_true] at hb
          simp only [cond_true] at h
          split at h
          · rename_i cs' es
            split at h
            · rename_i x' ep
              simp only [Option.some.injEq, Res.ok.injEq, true_and] at h
              obtain ⟨rfl, rfl⟩ := h
              obtain ⟨_, _, hm⟩ := hp1
              rw [eb] at hm
              obtain ⟨hi, r, hβ, hy⟩ := hm
              have he := a4.ent b
              unfold MemAt at he
              rw [eb] at he
              obtain ⟨hl0, r', vs, T', h1, h2, h3, h4⟩ := he
              rw [hβ] at h1; cases h1
              have hown : σ1.owned b r := ⟨by rw [eb]; trivial, hβ⟩
              have hlt : b < σ1.mem.length := blkAt_lt (by rw [eb]; simp)
              have hrl := (a4.own b r hown).2.1
              have hxi : xs[i]? = some (xs.getD i τ.dflt) := by
                rw [List.getD_eq_getElem?_getD, List.getElem?_eq_getElem hi]; rfl
              obtain ⟨ds, d1, d2⟩ := h4 i _ hxi
              have hdl := d1.len
              -- the element's cells, old and new
              obtain ⟨k1, k2⟩ := All2.splice es (vs := ds.toArray) (by simpa using cellsOf_rep d1) hv1.cells
              obtain ⟨y1, y2, hyy, p1, p2⟩ := parse_rep k1 ep
              cases p2
              rw [List.append_nil] at hyy
              have hle : off + (a.eval z).cells.size ≤ τ.width := by simp at k2; omega
              have hfit : i * τ.width + off + (a.eval z).cells.size ≤ vs.size := by
                rw [h3]
                have := Nat.mul_le_mul_right τ.width (show i + 1 ≤ xs.length by omega)
                rw [Nat.succ_mul] at this
                omega
              have hnew : ∀ j d, y1[j]? = some d → (putAt vs (i * τ.width + off) (a.eval z).cells.toList)[i * τ.width + j]? = some d := fun j d hj => by
                have hpl := putAt_toList (a.eval z).cells.toList vs (i * τ.width + off) (by simpa using hfit)
                have hpd := putAt_toList (a.eval z).cells.toList ds.toArray off (by simpa using k2)
                rw [← hyy, hpd] at hj
                have hjw : j < τ.width := by
                  have := (List.getElem?_eq_some_iff.1 hj).1
                  simp at this
                  simp at k2
                  omega
                rw [← Array.getElem?_toList, hpl]
                simp only [List.append_assoc] at hj ⊢
                rcases Nat.lt_or_ge j off with hjo | hjo
                · rw [List.getElem?_append_left (by simp; omega), List.getElem?_take_of_lt (by omega)] at *
                  simpa using d2 j d (by simpa using hj)
                · rw [List.getElem?_append_right (by simp; omega)] at hj ⊢
                  have e1 : i * τ.width + j - (List.take (i * τ.width + off) vs.toList).length = j - (List.take off ds.toArray.toList).length := by
                    simp at k2 ⊢; omega
                  rw [e1]
                  rcases Nat.lt_or_ge (j - (List.take off ds.toArray.toList).length) (a.eval z).cells.toList.length with hq | hq
                  · rw [List.getElem?_append_left hq] at hj ⊢; exact hj
                  · rw [List.getElem?_append_right hq] at hj ⊢
                    rw [List.getElem?_drop] at hj ⊢
                    have e2 : i * τ.width + off + (a.eval z).cells.toList.length + (j - (List.take off ds.toArray.toList).length - (a.eval z).cells.toList.length) = i * τ.width + (off + (a.eval z).cells.toList.length + (j - (List.take off ds.toArray.toList).length - (a.eval z).cells.toList.length)) := by omega
                    rw [e2]
                    simpa using d2 _ d (by simpa using hj)
              have hold : ∀ i', i' ≠ i → ∀ j, j < τ.width → (putAt vs (i * τ.width + off) (a.eval z).cells.toList)[i' * τ.width + j]? = vs[i' * τ.width + j]? := fun i' hne j hj => by
                have hpl := putAt_toList (a.eval z).cells.toList vs (i * τ.width + off) (by simpa using hfit)
                rw [← Array.getElem?_toList, hpl]
                rcases Nat.lt_or_gt_of_ne hne with hlt' | hgt
                · have := Nat.mul_le_mul_right τ.width (show i' + 1 ≤ i by omega)
                  rw [Nat.succ_mul] at this
                  rw [List.append_assoc, List.getElem?_append_left (by simp; omega), List.getElem?_take_of_lt (by omega)]
                  simp
                · have := Nat.mul_le_mul_right τ.width (show i + 1 ≤ i' by omega)
                  rw [Nat.succ_mul] at this
                  rw [List.getElem?_append_right (by simp; omega), List.getElem?_drop]
                  have e2 : i * τ.width + off + (a.eval z).cells.toList.length + (i' * τ.width + j - (List.take (i * τ.width + off) vs.toList ++ (a.eval z).cells.toList).length) = i' * τ.width + j := by simp; omega
                  rw [e2]; simp
              obtain ⟨g1, g2⟩ := store_ok a4 hown (e := .arr τ (xs.set i x')) (vs := putAt vs (i * τ.width + off) (a.eval z).cells.toList) (T := T') (by rw [eb]; exact ⟨_, rfl, by simp⟩) (fun hg => by
                unfold MemAt
                simp only [Sit.store]
                rw [blkAt_set hlt, if_pos rfl]
                refine ⟨by simpa using hl0, r, _, T', hβ, heap_wset_eq hrl, by rw [putAt_size, h3]; simp, fun i' u hu => ?_⟩
                rw [List.getElem?_set] at hu
                split at hu
                · rename_i hii
                  subst hii
                  cases hu
                  exact ⟨y1, p1.mono hg.stab hg.heap, fun j d hj => by simpa using hnew j d hj⟩
                · rename_i hii
                  obtain ⟨ds', d1', d2'⟩ := h4 i' u hu
                  refine ⟨ds', d1'.mono hg.stab hg.heap, fun j d hj => ?_⟩
                  have hjl := (List.getElem?_eq_some_iff.1 hj).1
                  rw [d1'.len] at hjl
                  rw [Nat.zero_add, hold i' (fun e => hii e.symm) j hjl]
                  simpa using d2' j d hj)
              have hl := lenIs_eq hb.1.1
              have hcl := hv1.cells.length
              have hsz : (a.eval z).cells.size = C.P.cellsOf T := by simp at hcl; omega
              have hpos : C.P.cellsOf T ≠ 0 := Nat.ne_of_gt (by simpa using hb.2)
              have hrun := run_storeVar (P := C.P) (T := T) (off := i * τ.width + off) h2 (info_of_cells hpos) hsz hv1.cells.allScalar (by omega)
              refine good_skip (σ' := σ1.store b r (.arr τ (xs.set i x')) (putAt vs (i * τ.width + off) (a.eval z).cells.toList) T') ?_ g1 (a5.trans g2).moves (by simp [Sit.store, a1]) trivial
              simp only [execOp, hop, hy]
              simp only [Sem.run_bind]
              rw [← a2, hrun]
              simp only [Result.andThen_ok, Sem.run_pure]
              rfl
            · cases h
          · cases h
      · cases h
  · cases h

theorem op_nilCheck (ho : Ok base S0 σ) (hr : RelT σ s a) (hx : CtxOk a ctx) {y : Operand} (hop : o.op = .nilCheck y) (h : plainOp C s ctx o = some (.ok true x mem')) : Good C base S0 id σ a o x mem' := by
  unfold plainOp at h
  rw [hop] at h
  simp only at h
  split at h
  · rename_i b off e
    have hp := ev_ok hr hx e
    split at h
    · rename_i cs eb
      simp only [Option.some.injEq, Res.ok.injEq, true_and] at h
      obtain ⟨rfl, rfl⟩ := h
      rw [← hr.mem] at eb
      obtain ⟨r, hβ, hy⟩ := RepC.ptr_raw hp eb
      refine good_at (σ' := σ) (v := a.eval y) ?_ ho (Goes.refl σ).moves hr.mem hp
      simp only [execOp, hop, hy]
      rfl
    · cases h
  · cases h

theorem op_unOp (ho : Ok base S0 σ) (hr : RelT σ s a) (hx : CtxOk a ctx) {op : UnOp} {T : TypeId} {y : Operand} (hop : o.op = .unOp op T y) (h : plainOp C s ctx o = some (.ok true x mem')) : Good C base S0 id σ a o x mem' := by
  unfold plainOp at h
  rw [hop] at h
  simp only at h
  split at h
  · rename_i c ec
    split at h
    · rename_i r er
      simp only [Option.some.injEq, Res.ok.injEq, true_and] at h
      obtain ⟨rfl, rfl⟩ := h
      obtain ⟨v, h1, h2⟩ := unV_ok (P := C.P) (w := σ.w) (ev1_ok hr hx ec) er
      exact good_at (σ' := σ) (v := v) (by simp only [execOp, hop]; exact run_v h1) ho (Goes.refl σ).moves hr.mem h2
    · cases h
  · cases h

theorem op_convert (ho : Ok base S0 σ) (hr : RelT σ s a) (hx : CtxOk a ctx) {T1 T2 : TypeId} {y : Operand} (hop : o.op = .convert T1 T2 y) (h : plainOp C s ctx o = some (.ok true x mem')) : Good C base S0 id σ a o x mem' := by
  unfold plainOp at h
  rw [hop] at h
  simp only at h
  split at h
  · rename_i k k' n hT e
    split at h
    · rename_i d hT1
      simp only [Option.some.injEq, Res.ok.injEq, true_and] at h
      obtain ⟨rfl, rfl⟩ := h
      obtain ⟨h1, h2⟩ := ev1_ok hr hx e
      refine good_at (σ' := σ) (v := .int k (k.wrap n)) ?_ ho (Goes.refl σ).moves hr.mem (wrap_ok (σ := σ) k n)
      simp only [execOp, hop, h1]
      refine run_v ?_
      unfold convert
      simp only [Sem.run_bind, run_und hT1, run_und hT, Result.andThen_ok]
      cases d <;> simp [Conv.intToInt]
    · cases h
  · cases h

theorem op_fieldAddr (ho : Ok base S0 σ) (hr : RelT σ s a) (hx : CtxOk a ctx) {T : TypeId} {y : Operand} {i : Nat} (hop : o.op = .fieldAddr T y i) (h : plainOp C s ctx o = some (.ok true x mem')) : Good C base S0 id σ a o x mem' := by
  unfold plainOp at h
  rw [hop] at h
  simp only at h
  split at h
  · rename_i b off d ft e1 e2
    split at h
    · rename_i cs eb
      simp only [Option.some.injEq, Res.ok.injEq, true_and] at h
      obtain ⟨rfl, rfl⟩ := h
      rw [← hr.mem] at eb
      have hp := ev1_ok hr hx e1
      obtain ⟨r, hβ, hy⟩ := RepC.ptr_raw hp eb
      refine good_at (σ' := σ) (v := .pointer (some ⟨r, off + d, none⟩)) (by simp only [execOp, hop, hy]; exact run_v (fieldPlace_run e2 _ _ _)) ho (Goes.refl σ).moves hr.mem ?_
      refine ⟨hp.1, trivial, ?_⟩
      rw [eb]
      exact ⟨r, hβ, rfl⟩
    · cases h
  · rename_i b j off d ft e1 e2
    split at h
    · rename_i τ xs eb
      simp only [Option.some.injEq, Res.ok.injEq, true_and] at h
      obtain ⟨rfl, rfl⟩ := h
      rw [← hr.mem] at eb
      have hp := ev1_ok hr hx e1
      obtain ⟨hlt, _, hm⟩ := hp
      rw [eb] at hm
      obtain ⟨hi, r, hβ, hy⟩ := hm
      refine good_at (σ' := σ) (v := .pointer (some ⟨r, j * τ.width + off + d, none⟩)) (by simp only [execOp, hop, hy]; exact run_v (fieldPlace_run e2 _ _ _)) ho (Goes.refl σ).moves hr.mem ?_
      refine ⟨hlt, trivial, ?_⟩
      rw [eb]
      exact ⟨hi, r, hβ, by rw [Nat.add_assoc]⟩
    · cases h
  · rename_i τ y' off d ft e1 e2
    simp only [Option.some.injEq, Res.ok.injEq, true_and] at h
    obtain ⟨rfl, rfl⟩ := h
    obtain ⟨r, q, vs, T', fz, ds, hy, h1, h2, h3, h4⟩ := ev1_ok hr hx e1
    refine good_at (σ' := σ) (v := .pointer (some ⟨r, q + off + d, none⟩)) (by simp only [execOp, hop, hy]; exact run_v (fieldPlace_run e2 _ _ _)) ho (Goes.refl σ).moves hr.mem ?_
    exact ⟨r, q, vs, T', fz, ds, by rw [Nat.add_assoc], h1, h2, h3, h4⟩
  · cases h

end Vx
