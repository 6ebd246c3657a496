/- Indexing, making, fields, tuples. -/
import Derived.Test.YtkkdblemeoehpaaDoorVxOps7
namespace Vx
open Go Go.RowKit

variable {C : Cfg} {base : World} {S0 : Nat → Prop} {σ : Sit} {s : St} {a : Act} {ctx : List (Nat × Bool)} {o : Oper} {x : TV} {mem' : Mem}

theorem elemSh_info {P : Program} {e : TypeId} {τ : Shape} (eτ : elemSh P e = some τ) : ∃ i, P.info? e = some i := by
  have : shapeOf P 12 e = some τ := by
    unfold elemSh at eτ
    split at eτ
    · rename_i τ' e'
      cases hb : Nat.beq (P.cellsOf e) τ'.width with
      | false => rw [hb] at eτ; cases eτ
      | true => rw [hb] at eτ; cases eτ; exact e'
    · cases eτ
  unfold shapeOf at this
  cases hu : P.underlying e with
  | none => rw [hu] at this; cases this
  | some d => exact info_of_und hu

theorem index_array {P : Program} {T e : TypeId} {n : Nat} {τ : Shape} (hT : P.underlying T = some (.array n e)) (eτ : elemSh P e = some τ) {r q : Nat} {k : IntKind} {i : Int} (h0 : 0 ≤ i) (h1 : i < (n : Int)) (w : World) :
    (Instr.indexAt T (.pointer (some ⟨r, q, none⟩)) (.int k i)).run P w = .ok (.pointer (some ⟨r, q + i.toNat * τ.width, none⟩)) w := by
  unfold Instr.indexAt
  simp [run_und hT, asIntOf, Instr.sureAddr, h0, h1, run_size (elemSh_info eτ), elemSh_ok eτ, addr_add]

theorem index_slice {P : Program} {T e : TypeId} {n c : Nat} {τ : Shape} (hT : P.underlying T = some (.slice e)) (eτ : elemSh P e = some τ) {r q : Nat} {k : IntKind} {i : Int} (h0 : 0 ≤ i) (h1 : i < (n : Int)) (w : World) :
    (Instr.indexAt T (.slice (some ⟨r, q, none⟩) n c) (.int k i)).run P w = .ok (.pointer (some ⟨r, q + i.toNat * τ.width, none⟩)) w := by
  unfold Instr.indexAt
  simp [run_und hT, asIntOf, h0, h1, run_size (elemSh_info eτ), elemSh_ok eτ, addr_add]

theorem getD_some {α : Type} {xs : List α} {i : Nat} {d : α} (h : i < xs.length) : xs[i]? = some (xs.getD i d) := by
  rw [List.getD_eq_getElem?_getD, List.getElem?_eq_getElem h]; rfl

/-- a place in a row that nobody writes -/
theorem iptr_of {τ : Shape} {xs : List (Den τ)} {r q : Nat} {vs : Array Value} {T : TypeId} {fz : Nat × Nat} {i : Nat} (hS : σ.S r) (hh : σ.w.heap[r]? = some (.cells vs T fz)) (hrow : Rows σ.w σ.S τ vs q xs) (hi : i < xs.length) :
    RepC σ (.iptr τ (xs.getD i τ.dflt) 0) (.pointer (some ⟨r, q + i * τ.width, none⟩)) := by
  obtain ⟨ds, d1, d2⟩ := hrow i _ (getD_some (d := τ.dflt) hi)
  exact ⟨r, q + i * τ.width, vs, T, fz, ds, rfl, hS, hh, d1, d2⟩

theorem iptr_slice {P : Program} {T e : TypeId} {τ : Shape} {xs : List (Den τ)} {y : Value} (hT : P.underlying T = some (.slice e)) (eτ : elemSh P e = some τ) (hd : DRep σ.w σ.S (.slice τ) xs [y]) {k : IntKind} {i : Int} (h0 : 0 ≤ i) (h1 : i < (xs.length : Int)) (w : World) :
    ∃ v, (Instr.indexAt T y (.int k i)).run P w = .ok v w ∧ RepC σ (.iptr τ (xs.getD i.toNat τ.dflt) 0) v := by
  obtain ⟨A, c, hy, hc, hl, hne⟩ := hd
  cases hy
  have hlt : i.toNat < xs.length := by omega
  obtain ⟨r, q, vs, T', fz, rfl, g1, g2, g3⟩ := hne (fun e => by subst e; simp at hlt)
  exact ⟨_, index_slice hT eτ h0 h1 w, iptr_of g1 g2 g3 hlt⟩

theorem op_indexAddr (ho : Ok base S0 σ) (hr : RelT σ s a) (hx : CtxOk a ctx) (hG : GlobOk C σ.w σ.S) {T : TypeId} {y z : Operand} (hop : o.op = .indexAddr T y z) (h : plainOp C s ctx o = some (.ok true x mem')) : Good C base S0 id σ a o x mem' := by
  unfold plainOp at h
  rw [hop] at h
  simp only at h
  have hex : ∀ {v : Value}, (Instr.indexAt T (a.eval y) (a.eval z)).run C.P σ.w = .ok v σ.w → (execOp a.eval o).run C.P σ.w = .ok (.value v) σ.w := fun hv => by
    simp only [execOp, hop]; exact run_v hv
  split at h
  · rename_i n e g i hT ec ei
    obtain ⟨k, hi, _⟩ := intArg_ok hr hx ei
    have hc : a.eval y = .pointer (some ⟨g, 0, none⟩) := ev1_ok hr hx ec
    split at h
    · rename_i τ xs τ' eg eτ
      split at h
      · rename_i hττ
        subst hττ
        cases hb : Nat.beq xs.length n with
        | false => rw [hb] at h; cases h
        | true =>
          rw [hb] at h
          simp only [cond_true, Option.some.injEq, Res.ok.injEq, Bool.and_eq_true, decide_eq_true_eq] at h
          obtain ⟨⟨g1, g2⟩, rfl, rfl⟩ := h
          have hn : xs.length = n := Nat.eq_of_beq_eq_true hb
          obtain ⟨hS, vs, T', fz, hh, hrow⟩ := hG g _ _ eg
          refine good_at (σ' := σ) (hex (by rw [hc, hi]; exact index_array hT eτ g1 g2 σ.w)) ho (Goes.refl σ).moves hr.mem ?_
          exact iptr_of (q := 0) hS hh hrow (by omega)
      · cases h
    · cases h
  · rename_i n e b i hT ec ei
    obtain ⟨k, hi, _⟩ := intArg_ok hr hx ei
    have hc := ev1_ok hr hx ec
    split at h
    · rename_i τ xs τ' eb eτ
      split at h
      · rename_i hττ
        subst hττ
        simp only [Option.some.injEq, Res.ok.injEq, Bool.and_eq_true, decide_eq_true_eq] at h
        obtain ⟨⟨⟨g1, g2⟩, g3⟩, rfl, rfl⟩ := h
        rw [← hr.mem] at eb
        obtain ⟨hlt, _, hm⟩ := hc
        rw [eb] at hm
        obtain ⟨r, hβ, hy⟩ := hm
        refine good_at (σ' := σ) (hex (by rw [hy, hi]; exact index_array hT eτ g1 g2 σ.w)) ho (Goes.refl σ).moves hr.mem ?_
        refine ⟨hlt, trivial, ?_⟩
        rw [eb]
        exact ⟨by omega, r, hβ, by simp⟩
      · cases h
    · cases h
  · rename_i e c i hT ec ei
    obtain ⟨k, hi, _⟩ := intArg_ok hr hx ei
    have hc := ev1_ok hr hx ec
    split at h
    · rename_i τ eτ
      split at h
      · rename_i b
        split at h
        · rename_i τ' xs eb
          split at h
          · rename_i hττ
            subst hττ
            simp only [Option.some.injEq, Res.ok.injEq, Bool.and_eq_true, decide_eq_true_eq] at h
            obtain ⟨⟨g1, g2⟩, rfl, rfl⟩ := h
            rw [← hr.mem] at eb
            obtain ⟨hlt, _, hm⟩ := hc
            rw [eb] at hm
            obtain ⟨r, hβ, hy⟩ := hm
            refine good_at (σ' := σ) (hex (by rw [hy, hi]; exact index_slice hT eτ g1 g2 σ.w)) ho (Goes.refl σ).moves hr.mem ?_
            refine ⟨hlt, trivial, ?_⟩
            rw [eb]
            exact ⟨by omega, r, hβ, by simp⟩
          · cases h
        · rename_i τ' xs eb
          split at h
          · rename_i hττ
            subst hττ
            simp only [Option.some.injEq, Res.ok.injEq, Bool.and_eq_true, decide_eq_true_eq] at h
            obtain ⟨⟨g1, g2⟩, rfl, rfl⟩ := h
            rw [← hr.mem] at eb
            obtain ⟨σ1, a1, a2, a3, a4, a5⟩ := froze ho (.inr eb)
            have hc1 := a5.repC hc
            obtain ⟨_, _, hm⟩ := hc1
            rw [a1, blkAt_set (blkAt_lt (by rw [eb]; simp)), if_pos rfl] at hm
            obtain ⟨v, h1, h2⟩ := iptr_slice hT eτ hm (k := k) g1 g2 σ.w
            refine good_at (σ' := σ1) (v := v) (by rw [a2]; exact hex (by rw [hi]; exact h1)) a4 a5.moves (by rw [a1, hr.mem]) h2
          · cases h
        · rename_i τ' xs eb
          split at h
          · rename_i hττ
            subst hττ
            simp only [Option.some.injEq, Res.ok.injEq, Bool.and_eq_true, decide_eq_true_eq] at h
            obtain ⟨⟨g1, g2⟩, rfl, rfl⟩ := h
            rw [← hr.mem] at eb
            obtain ⟨_, _, hm⟩ := hc
            rw [eb] at hm
            obtain ⟨v, h1, h2⟩ := iptr_slice hT eτ hm (k := k) g1 g2 σ.w
            exact good_at (σ' := σ) (v := v) (hex (by rw [hi]; exact h1)) ho (Goes.refl σ).moves hr.mem h2
          · cases h
        · cases h
      · rename_i τ' xs
        split at h
        · rename_i hττ
          subst hττ
          simp only [Option.some.injEq, Res.ok.injEq, Bool.and_eq_true, decide_eq_true_eq] at h
          obtain ⟨⟨g1, g2⟩, rfl, rfl⟩ := h
          obtain ⟨v, h1, h2⟩ := iptr_slice hT eτ hc (k := k) g1 g2 σ.w
          exact good_at (σ' := σ) (v := v) (hex (by rw [hi]; exact h1)) ho (Goes.refl σ).moves hr.mem h2
        · cases h
      · cases h
    · cases h
  · cases h

theorem made_rows {τ : Shape} {d : Den τ} {z : Array Value} (hd : DRep σ.w σ.S τ d z.toList) (_hw : 0 < z.size) (n : Nat) : Rows σ.w σ.S τ (madeCells z (n * z.size)) 0 (List.replicate n d) := by
  have hl := hd.len
  simp at hl
  intro i x hi
  rw [List.getElem?_replicate] at hi
  split at hi
  · rename_i hin
    cases hi
    refine ⟨z.toList, hd, fun j v hj => ?_⟩
    have hjl : j < z.size := by simpa using (List.getElem?_eq_some_iff.1 hj).1
    rw [← hl, Nat.zero_add]
    refine madeCells_get ?_ ?_
    · have := Nat.mul_le_mul_right z.size (show i + 1 ≤ n by omega)
      rw [Nat.succ_mul] at this
      omega
    · rw [Nat.add_comm, Nat.add_mul_mod_self_right, Nat.mod_eq_of_lt hjl]
      simpa using hj
  · cases hi

theorem op_makeSlice (ho : Ok base S0 σ) (hr : RelT σ s a) (hx : CtxOk a ctx) {T : TypeId} {l c : Operand} (hop : o.op = .makeSlice T l c) (h : plainOp C s ctx o = some (.ok true x mem')) : Good C base S0 id σ a o x mem' := by
  unfold plainOp at h
  rw [hop] at h
  simp only at h
  split at h
  · rename_i e n m hT en em
    obtain ⟨kn, hn, _⟩ := intArg_ok hr hx en
    obtain ⟨km, hm, _⟩ := intArg_ok hr hx em
    split at h
    · rename_i τ z eτ hz
      split at h
      · rename_i d ep
        obtain ⟨ie, zv, hi, hzv, hzr⟩ := zeroSV_parts hz
        obtain ⟨y1, y2, hyy, p1, p2⟩ := parse_rep (hzr σ).cells ep
        cases p2
        rw [List.append_nil] at hyy
        rw [← hyy] at p1
        have hw := elemSh_ok eτ
        have hzl := p1.len
        have hsz : ie.size = C.P.cellsOf e := by simp [Program.cellsOf, hi]
        have hby : (ie.bytes : Int) = (C.P.bytesOf e : Int) := by simp [Program.bytesOf, hi]
        split at h
        · rename_i t t'
          cases hb : (Nat.beq t t' && Nat.blt 0 (C.P.cellsOf e) && Nat.blt 0 (C.P.bytesOf e)) with
          | false => rw [hb] at h; cases h
          | true =>
            rw [hb] at h
            simp only [Bool.and_eq_true] at hb
            simp only [cond_true, Option.some.injEq, Res.ok.injEq, Bool.and_eq_true, decide_eq_true_eq] at h
            obtain ⟨⟨g1, g2⟩, rfl, rfl⟩ := h
            have htt : t = t' := Nat.eq_of_beq_eq_true hb.1.1
            subst htt
            have hnm : kn = km ∧ n = m := by rw [hn] at hm; cases hm; exact ⟨rfl, rfl⟩
            obtain ⟨rfl, rfl⟩ := hnm
            have hpos : 0 < C.P.cellsOf e := by simpa using hb.1.2
            have hbpos : 0 < C.P.bytesOf e := by simpa using hb.2
            have hnle : n ≤ maxRoom := by
              refine Int.le_trans ?_ g2
              have := Int.mul_le_mul_of_nonneg_left (a := 1) (b := (C.P.bytesOf e : Int)) (c := n) (by omega) g1
              omega
            have hrun := run_make (P := C.P) σ.w T e ie zv hT hi hzv kn kn n n g1 (Int.le_refl _) (by rw [hby, Int.mul_comm]; unfold maxRoom at g2; omega) (by unfold maxRoom at hnle; omega)
            have hzs : zv.cells.size = C.P.cellsOf e := by simpa [hw] using hzl
            obtain ⟨k1, k2, k3, k4⟩ := arr_push ho (T := e) (τ := τ) (xs := List.replicate n.toNat d) (vs := madeCells zv.cells (n.toNat * ie.size)) (by unfold lim; unfold maxRoom at hnle; simp; omega) (by rw [size_madeCells, hsz, hw]; simp)
              (by rw [hsz, ← hzs]; exact made_rows p1 (by omega) n.toNat)
            refine good_at (σ' := σ.push (.arr τ (List.replicate n.toNat d)) (.cells (madeCells zv.cells (n.toNat * ie.size)) e) 0) ?_ k1 k2.moves (by simp [Sit.push, hr.mem]) ?_ (v := .slice (some ⟨σ.w.heap.size, 0, none⟩) n.toNat n.toNat)
            · simp only [execOp, hop, hn]; exact run_v hrun
            · rw [← hr.mem]
              refine ⟨by simp [Sit.push], trivial, ?_⟩
              rw [k3]
              exact ⟨_, k4, by simp⟩
        · rename_i kc
          cases hb : (Nat.blt 0 (C.P.cellsOf e) && Nat.blt 0 (C.P.bytesOf e)) with
          | false => rw [hb] at h; cases h
          | true =>
            rw [hb] at h
            simp only [Bool.and_eq_true] at hb
            simp only [cond_true, Option.some.injEq, Res.ok.injEq, Bool.and_eq_true, decide_eq_true_eq] at h
            obtain ⟨⟨g1, g2⟩, rfl, rfl⟩ := h
            have hpos : 0 < C.P.cellsOf e := by simpa using hb.1
            have hbpos : 0 < C.P.bytesOf e := by simpa using hb.2
            have hnle : m ≤ maxRoom := by
              refine Int.le_trans ?_ g2
              have := Int.mul_le_mul_of_nonneg_left (a := 1) (b := (C.P.bytesOf e : Int)) (c := m) (by omega) g1
              omega
            have hn' : a.eval (.const (.int kc 0)) = .int kc 0 := rfl
            have hrun := run_make (P := C.P) σ.w T e ie zv hT hi hzv kc km 0 m (Int.le_refl _) g1 (by rw [hby, Int.mul_comm]; unfold maxRoom at g2; omega) (by unfold maxRoom at hnle; omega)
            have hzs : zv.cells.size = C.P.cellsOf e := by simpa [hw] using hzl
            have hg := push_goes ho (.acc τ []) (.cells (madeCells zv.cells (m.toNat * ie.size)) e) m.toNat
            have hblk : blkAt (σ.push (.acc τ []) (.cells (madeCells zv.cells (m.toNat * ie.size)) e) m.toNat).mem σ.mem.length = .acc τ [] := blkAt_append_at
            have hok : Ok base S0 (σ.push (.acc τ []) (.cells (madeCells zv.cells (m.toNat * ie.size)) e) m.toNat) := by
              refine push_ok ho _ _ _ ?_
              unfold MemAt
              rw [hblk]
              refine ⟨by simp, by simp [Sit.push, upd]; unfold lim; unfold maxRoom at hnle; omega, .inr ⟨σ.w.heap.size, _, e, by simp [Sit.push, upd], heap_alloc_new, ?_, fun i x hi => by simp at hi⟩⟩
              rw [size_madeCells, hsz, hw]
              simp [Sit.push, upd]
            refine good_at (σ' := σ.push (.acc τ []) (.cells (madeCells zv.cells (m.toNat * ie.size)) e) m.toNat) ?_ hok hg.moves (by simp [Sit.push, hr.mem]) ?_ (v := .slice (some ⟨σ.w.heap.size, 0, none⟩) 0 m.toNat)
            · simp only [execOp, hop, hm, hn']; exact run_v hrun
            · rw [← hr.mem]
              refine ⟨by simp [Sit.push], trivial, ?_⟩
              rw [hblk]
              simp [Sit.push, upd]
        · cases h
      · cases h
    · cases h
  · cases h

theorem op_extract (ho : Ok base S0 σ) (hr : RelT σ s a) (hx : CtxOk a ctx) {y : Operand} {i : Nat} (hop : o.op = .extract y i) (h : plainOp C s ctx o = some (.ok true x mem')) : Good C base S0 id σ a o x mem' := by
  unfold plainOp at h
  rw [hop] at h
  simp only at h
  split at h
  · rename_i l e
    split at h
    · rename_i v ev
      simp only [Option.some.injEq, Res.ok.injEq, true_and] at h
      obtain ⟨rfl, rfl⟩ := h
      obtain ⟨_, ys, hy, ha⟩ := ev_ok hr hx e
      obtain ⟨u, hu, hR⟩ := ha.get ev
      refine good_at (σ' := σ) (v := u) ?_ ho (Goes.refl σ).moves hr.mem hR
      simp only [execOp, hop, hy]
      refine run_v ?_
      simp [Instr.extract, hu]
    · cases h
  · cases h

theorem op_index (ho : Ok base S0 σ) (hr : RelT σ s a) (hx : CtxOk a ctx) {T : TypeId} {y z : Operand} (hop : o.op = .index T y z) (h : plainOp C s ctx o = some (.ok true x mem')) : Good C base S0 id σ a o x mem' := by
  unfold plainOp at h
  rw [hop] at h
  simp only at h
  split at h
  · rename_i str i hT ec ei
    obtain ⟨k, hi, _⟩ := intArg_ok hr hx ei
    obtain ⟨hy, _⟩ := ev1_ok hr hx ec
    simp only [Option.some.injEq, Res.ok.injEq, Bool.and_eq_true, decide_eq_true_eq] at h
    obtain ⟨⟨g1, g2⟩, rfl, rfl⟩ := h
    have hlt : i.toNat < str.size := by omega
    have hb : str.data.toList.getD i.toNat 0 = str[i.toNat] := by
      rw [List.getD_eq_getElem?_getD, List.getElem?_eq_getElem (by simpa using hlt)]
      rfl
    refine good_at (σ' := σ) (v := .int .u8 ((str.data.toList.getD i.toNat 0).toNat : Int)) ?_ ho (Goes.refl σ).moves hr.mem ⟨rfl, ?_⟩
    · simp only [execOp, hop, hy, hi]
      refine run_v ?_
      unfold Instr.index
      simp only [Sem.run_bind, asIntOf, Sem.run_pure, Result.andThen_ok, run_und hT]
      rw [if_pos g1, getElem?_pos str i.toNat hlt]
      rw [hb]
      rfl
    · generalize str.data.toList.getD i.toNat 0 = u
      have := u.toNat_lt
      simp only [wfV, IntKind.min, IntKind.max, IntKind.signed, IntKind.bits]
      simp
      omega
  · cases h

theorem part_agg {P : Program} {T : TypeId} {cs l : List SC} {ys : List Value} {d : Nat} (ha : All2 (RepC σ) cs ys) (hT : aggT P T = some true) (h : takeN (P.cellsOf T) (dropN d cs) = some l) (w : World) :
    ∃ v, (part T ys.toArray d).run P w = .ok v w ∧ RepV σ (.agg l) v := by
  obtain ⟨h5, h6⟩ := takeN_eq h
  rw [dropN_eq] at h5 h6
  obtain ⟨dd, hd⟩ := aggT_und hT
  refine ⟨.agg (ys.toArray.extract d (d + P.cellsOf T)), ?_, ⟨(ys.drop d).take (P.cellsOf T), ?_, ?_⟩⟩
  · unfold part
    simp [aggT_ok hT, run_size (info_of_und hd)]
  · simp
  · rw [h5]; exact (ha.drop d).take _

theorem part_one {P : Program} {T : TypeId} {cs l : List SC} {c : SC} {ys : List Value} {d : Nat} (ha : All2 (RepC σ) cs ys) (hT : aggT P T = some false) (h : dropN d cs = c :: l) (w : World) :
    ∃ v, (part T ys.toArray d).run P w = .ok v w ∧ RepC σ c v := by
  rw [dropN_eq] at h
  have hc : cs[d]? = some c := by
    have := congrArg (fun l => l[0]?) h
    simpa using this
  obtain ⟨v, hv, hR⟩ := ha.get hc
  refine ⟨v, ?_, hR⟩
  unfold part
  simp [aggT_ok hT, hv]

theorem op_field (ho : Ok base S0 σ) (hr : RelT σ s a) (hx : CtxOk a ctx) {T : TypeId} {y : Operand} {i : Nat} (hop : o.op = .field T y i) (h : plainOp C s ctx o = some (.ok true x mem')) : Good C base S0 id σ a o x mem' := by
  unfold plainOp at h
  rw [hop] at h
  simp only at h
  split at h
  · rename_i cs d ft ec ef
    obtain ⟨ys, hy, ha⟩ := evV_ok hr hx ec
    have hfd : ∃ fs f, C.P.underlying T = some (.struct fs) ∧ fs[i]? = some f ∧ f.offset = d ∧ f.type = ft := by
      unfold fieldOff at ef
      split at ef
      · rename_i fs e
        split at ef
        · rename_i f eff
          cases hb : Nat.beq (C.P.cellsOf f.type) 0 with
          | true => rw [hb] at ef; cases ef
          | false => rw [hb] at ef; cases ef; exact ⟨fs, f, e, by simpa using eff, rfl, rfl⟩
        · cases ef
      · cases ef
    obtain ⟨fs, f, hu, hf, rfl, rfl⟩ := hfd
    have hex : ∀ {v : Value}, (part f.type ys.toArray f.offset).run C.P σ.w = .ok v σ.w → (execOp a.eval o).run C.P σ.w = .ok (.value v) σ.w := fun hv => by
      simp only [execOp, hop, hy]
      refine run_v ?_
      unfold Instr.field
      simp [run_und hu, hf, asAgg, hv]
    split at h
    · rename_i hT
      split at h
      · rename_i l et
        simp only [Option.some.injEq, Res.ok.injEq, true_and] at h
        obtain ⟨rfl, rfl⟩ := h
        obtain ⟨v, h1, h2⟩ := part_agg ha hT et σ.w
        exact good_at (σ' := σ) (v := v) (hex h1) ho (Goes.refl σ).moves hr.mem h2
      · cases h
    · rename_i hT
      split at h
      · rename_i c l et
        simp only [Option.some.injEq, Res.ok.injEq, true_and] at h
        obtain ⟨rfl, rfl⟩ := h
        obtain ⟨v, h1, h2⟩ := part_one ha hT et σ.w
        exact good_at (σ' := σ) (v := v) (hex h1) ho (Goes.refl σ).moves hr.mem h2
      · cases h
    · cases h
  · cases h

end Vx
