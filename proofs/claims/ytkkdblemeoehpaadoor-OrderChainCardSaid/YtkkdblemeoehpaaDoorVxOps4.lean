/- Plain operations that make no call. -/
import Derived.Test.YtkkdblemeoehpaaDoorVxOps3
import Derived.Laws.MakeOwn
import Derived.Laws.Tables
namespace Vx
open Go Go.RowKit

def accB : Blk → Prop
  | .acc _ _ => True
  | _ => False

structure Moves (f : SC → SC) (σ σ' : Sit) : Prop where
  stab : ∀ r, σ.S r → σ'.S r
  heap : ∀ r, σ.S r → σ'.w.heap[r]? = σ.w.heap[r]?
  rep : ∀ c y, RepC σ c y → RepC σ' (f c) y
  len : σ.mem.length ≤ σ'.mem.length
  noacc : ∀ b, b < σ.mem.length → accB (blkAt σ'.mem b) → accB (blkAt σ.mem b)

theorem Goes.noacc {σ σ' : Sit} (h : Goes σ σ') (b : Nat) (hb : b < σ.mem.length) (ha : accB (blkAt σ'.mem b)) : accB (blkAt σ.mem b) := by
  have ht := h.turns b hb
  unfold Turns at ht
  cases e : blkAt σ.mem b with
  | gone => rw [e] at ht; simp only at ht; rw [ht] at ha; exact ha
  | raw cs => rw [e] at ht; obtain ⟨_, cs', h2⟩ := ht; rw [h2] at ha; exact ha
  | arr τ xs =>
    rw [e] at ht
    rcases ht with ⟨_, xs', h2, _⟩ | ⟨xs', h2, _⟩
    · rw [h2] at ha; exact ha
    · rw [h2] at ha; exact ha
  | acc τ xs => trivial
  | froz τ xs => rw [e] at ht; simp only at ht; rw [ht] at ha; exact ha

theorem Goes.moves {σ σ' : Sit} (h : Goes σ σ') : Moves id σ σ' := ⟨h.stab, h.heap, fun _ _ => h.repC, h.len, h.noacc⟩

/-- what the model does at operation o brings x into its slot, and this memory -/
def Good (C : Cfg) (base : World) (S0 : Nat → Prop) (f : SC → SC) (σ : Sit) (a : Act) (o : Oper) (x : TV) (mem' : Mem) : Prop :=
  ∀ (K : Act → World → Prop) (Q : Exit → Act → World → Prop),
    (∀ (v : Value) (σ' : Sit), Ok base S0 σ' → Moves f σ σ' → σ'.mem = mem' → RepT σ' x v → K (a.put o.dst v) σ'.w) → o.wp C.P a σ.w K Q

theorem good_at {C : Cfg} {base : World} {S0 : Nat → Prop} {f : SC → SC} {σ σ' : Sit} {a : Act} {o : Oper} {x : TV} {mem' : Mem} {v : Value}
    (hex : (execOp a.eval o).run C.P σ.w = .ok (.value v) σ'.w) (ho : Ok base S0 σ') (hm : Moves f σ σ') (hmem : σ'.mem = mem') (hr : RepT σ' x v) : Good C base S0 f σ a o x mem' := by
  intro K Q hK
  unfold Oper.wp
  rw [hex]
  exact hK v σ' ho hm hmem hr

theorem good_skip {C : Cfg} {base : World} {S0 : Nat → Prop} {f : SC → SC} {σ σ' : Sit} {a : Act} {o : Oper} {x : TV} {mem' : Mem}
    (hex : (execOp a.eval o).run C.P σ.w = .ok .skip σ'.w) (ho : Ok base S0 σ') (hm : Moves f σ σ') (hmem : σ'.mem = mem') (hr : RepT σ' x undef) : Good C base S0 f σ a o x mem' := by
  intro K Q hK
  unfold Oper.wp
  rw [hex]
  exact hK undef σ' ho hm hmem hr

theorem run_v {P : Program} {s : Sem Value} {w w' : World} {v : Value} (h : s.run P w = .ok v w') : (do pure (Next.value (← s)) : Sem Next).run P w = .ok (.value v) w' := by
  simp [h]

variable {C : Cfg} {base : World} {S0 : Nat → Prop} {σ : Sit} {s : St} {a : Act} {ctx : List (Nat × Bool)} {o : Oper}

theorem pick_ok (hr : RelT σ s a) (hx : CtxOk a ctx) {t : Nat} {A B : Operand} {cb x y : Bool} (hc : ev1 s ctx (.tmp t) = some (.v (.bool cb))) (hA : ev1 s ((t, true) :: ctx) A = some (.v (.bool x)))
    (hB : ev1 s ((t, false) :: ctx) B = some (.v (.bool y))) : a.eval (.tmp t) = .bool cb ∧ (if cb then a.eval A else a.eval B) = .bool (bif cb then x else y) := by
  have h1 : a.eval (.tmp t) = .bool cb := (ev1_ok hr hx hc).1
  refine ⟨h1, ?_⟩
  have hctx : ∀ b, cb = b → CtxOk a ((t, b) :: ctx) := fun b hb t' p hm => by
    rcases List.mem_cons.1 hm with h | h
    · cases h; rw [← hb]; exact h1
    · exact hx t' p h
  cases cb with
  | true => exact (ev1_ok hr (hctx true rfl) hA).1
  | false => exact (ev1_ok hr (hctx false rfl) hB).1

theorem heap_alloc_new {w : World} {o : Obj} : (w.alloc o).heap[w.heap.size]? = some o := by
  show (w.heap.push o)[w.heap.size]? = _
  simp

theorem raw_push (ho : Ok base S0 σ) {T : TypeId} {x : SV} {z : Value} (hz : RepV σ x z) : Ok base S0 (σ.push (.raw x.cells) (.cells z.cells T) 0) ∧ Goes σ (σ.push (.raw x.cells) (.cells z.cells T) 0) ∧
    RepC (σ.push (.raw x.cells) (.cells z.cells T) 0) (.ptr σ.mem.length 0) (.pointer (some ⟨σ.w.heap.size, 0, none⟩)) := by
  have hg := push_goes ho (.raw x.cells) (.cells z.cells T) 0
  have hblk : blkAt (σ.push (.raw x.cells) (.cells z.cells T) 0).mem σ.mem.length = .raw x.cells := blkAt_append_at
  have hheap : (σ.push (.raw x.cells) (.cells z.cells T) 0).w.heap[σ.w.heap.size]? = some (.cells z.cells T (0, 0)) := heap_alloc_new
  refine ⟨push_ok ho _ _ _ ?_, hg, ?_⟩
  · unfold MemAt
    rw [hblk]
    exact ⟨σ.w.heap.size, z.cells, T, by simp [Sit.push, upd], hheap, hz.cells.mono fun _ _ => hg.repC⟩
  · refine ⟨by simp [Sit.push], trivial, ?_⟩
    rw [hblk]
    exact ⟨σ.w.heap.size, by simp [Sit.push, upd], rfl⟩

theorem arr_push (ho : Ok base S0 σ) {T : TypeId} {τ : Shape} {xs : List (Den τ)} {vs : Array Value} (hl : xs.length < lim) (hsz : vs.size = xs.length * τ.width) (hrow : Rows σ.w σ.S τ vs 0 xs) :
    Ok base S0 (σ.push (.arr τ xs) (.cells vs T) 0) ∧ Goes σ (σ.push (.arr τ xs) (.cells vs T) 0) ∧ blkAt (σ.push (.arr τ xs) (.cells vs T) 0).mem σ.mem.length = .arr τ xs ∧
    (σ.push (.arr τ xs) (.cells vs T) 0).E.β σ.mem.length = some σ.w.heap.size := by
  have hg := push_goes ho (.arr τ xs) (.cells vs T) 0
  have hblk : blkAt (σ.push (.arr τ xs) (.cells vs T) 0).mem σ.mem.length = .arr τ xs := blkAt_append_at
  have hheap : (σ.push (.arr τ xs) (.cells vs T) 0).w.heap[σ.w.heap.size]? = some (.cells vs T (0, 0)) := heap_alloc_new
  refine ⟨push_ok ho _ _ _ ?_, hg, hblk, by simp [Sit.push, upd]⟩
  unfold MemAt
  rw [hblk]
  exact ⟨hl, σ.w.heap.size, vs, T, by simp [Sit.push, upd], hheap, hsz, hrow.mono hg.stab hg.heap⟩

theorem run_newVar {P : Program} {T : TypeId} {z : Value} {w : World} : (newVar T z).run P w = .ok ⟨w.heap.size, 0, none⟩ (w.alloc (.cells z.cells T)) := by
  simp [newVar, newRow]

/-- how long what code makes at once may be -/
theorem big_lim : (1048576 : Nat) < lim := by unfold lim; omega

theorem many_eq {τ : Shape} {n : Nat} {cs : List SC} {xs : List (Den τ)} (h : many τ n cs = some xs) : parseMany τ n cs = some xs ∧ n ≤ 1048576 := by
  unfold many at h
  cases hb : Nat.ble n 1048576 with
  | false => rw [hb] at h; cases h
  | true => rw [hb] at h; exact ⟨h, Nat.le_of_ble_eq_true hb⟩

theorem rows_of_many {τ : Shape} {n : Nat} {cs : List SC} {z : Value} {xs : List (Den τ)} (hz : All2 (RepC σ) cs z.cells.toList) (h : many τ n cs = some xs) :
    xs.length = n ∧ z.cells.size = xs.length * τ.width ∧ Rows σ.w σ.S τ z.cells 0 xs ∧ xs.length < lim := by
  obtain ⟨h, hn⟩ := many_eq h
  obtain ⟨h1, h2, h3⟩ := parseMany_rep hz h
  refine ⟨h1, by rw [h1]; simpa using h2, fun i x hi => ?_, by have := big_lim; omega⟩
  obtain ⟨ds, d1, d2⟩ := h3 i x hi
  exact ⟨ds, d1, fun j d hj => by simpa using d2 j d hj⟩

theorem elemSh_ok {P : Program} {e : TypeId} {τ : Shape} (h : elemSh P e = some τ) : P.cellsOf e = τ.width := by
  unfold elemSh at h
  split at h
  · rename_i τ' e'
    cases hb : Nat.beq (P.cellsOf e) τ'.width with
    | false => rw [hb] at h; cases h
    | true => rw [hb] at h; cases h; exact Nat.eq_of_beq_eq_true hb
  · cases h

theorem ptr_of_arr {σ' : Sit} {b r n : Nat} {τ : Shape} {xs : List (Den τ)} (hb : b < σ'.mem.length) (h : blkAt σ'.mem b = .arr τ xs) (hr : σ'.E.β b = some r) : RepC σ' (.ptr b n) (.pointer (some ⟨r, n, none⟩)) := by
  refine ⟨hb, trivial, ?_⟩
  rw [h]
  exact ⟨r, hr, rfl⟩

theorem fieldPlace_run {P : Program} {T : TypeId} {i : Nat} {d : Nat} {ft : TypeId} (h : fieldOff P T i = some (d, ft)) (w : World) (r o : Nat) :
    (Instr.fieldAt T (.pointer (some ⟨r, o, none⟩)) i).run P w = .ok (.pointer (some ⟨r, o + d, none⟩)) w := by
  unfold fieldOff at h
  split at h
  · rename_i fs e
    split at h
    · rename_i f ef
      cases hb : Nat.beq (P.cellsOf f.type) 0 with
      | true => rw [hb] at h; cases h
      | false =>
        rw [hb] at h; cases h
        have hne : P.cellsOf f.type ≠ 0 := fun e => by rw [e] at hb; cases hb
        have hi : ∃ i, P.info? f.type = some i := by
          unfold Program.cellsOf at hne
          cases hq : P.info? f.type with
          | none => rw [hq] at hne; exact absurd rfl hne
          | some i => exact ⟨i, rfl⟩
        have ef' : fs[i]? = some f := by simpa using ef
        unfold Instr.fieldAt
        simp only [Sem.run_bind, run_und e, Result.andThen_ok, ef', Instr.sureAddr, Sem.run_pure, fieldPlace, run_size hi]
        rw [if_neg hne]
        simp [addr_add]
    · cases h
  · cases h


/-- a new block that nobody writes -/
def Sit.fresh (σ : Sit) (o : Obj) : Sit := { E := σ.E, mem := σ.mem, w := σ.w.alloc o, S := fun r => σ.S r ∨ r = σ.w.heap.size }

theorem fresh_goes (ho : Ok base S0 σ) (o : Obj) : Goes σ (σ.fresh o) :=
  ⟨fun _ h => .inl h, fun r hr => heap_alloc_lt (ho.stab r hr).1, Nat.le_refl _, fun _ _ => Turns.refl rfl rfl rfl⟩

theorem fresh_ok (ho : Ok base S0 σ) (o : Obj) : Ok base S0 (σ.fresh o) := by
  refine ⟨ho.below.alloc ho.below.size o, fun r h => .inl (ho.stab0 r h), fun r h => ?_, fun b => ?_, fun b r h => ?_, fun b b' r h h' => ho.inj b b' r h h'⟩
  · rcases h with h | h
    · have := ho.stab r h; exact ⟨by simp only [Sit.fresh, World.size_alloc]; omega, this.2⟩
    · subst h; exact ⟨by simp [Sit.fresh], .inr ho.below.size⟩
  · exact MemAt.keep (fresh_goes ho o) rfl rfl rfl (fun r hr => heap_alloc_lt (ho.own b r hr).2.1) (ho.ent b)
  · have := ho.own b r h
    refine ⟨this.1, by simp only [Sit.fresh, World.size_alloc]; omega, fun hs => ?_⟩
    rcases hs with hs | hs
    · exact this.2.2 hs
    · omega

theorem places_eq {P : Program} : ∀ {l : List Field}, l.all (fun f => (P.info? f.type).isSome) = true →
    l.mapM (fun f => (P.info? f.type).map fun i => (f.offset, i.size)) = some (l.map fun f => (f.offset, P.cellsOf f.type))
  | [], _ => rfl
  | f :: l, h => by
    simp only [List.all_cons, Bool.and_eq_true] at h
    obtain ⟨i, hi⟩ := Option.isSome_iff_exists.1 h.1
    simp [List.mapM_cons, hi, places_eq h.2, Program.cellsOf]

theorem zeroSV_parts {P : Program} {T : TypeId} {x : SV} (h : zeroSV P T = some x) : ∃ i z, P.info? T = some i ∧ i.zero = some z ∧ ∀ σ : Sit, RepV σ x z := by
  unfold zeroSV at h
  split at h
  · rename_i i e
    split at h
    · rename_i z e2
      exact ⟨i, z, e, e2, fun σ => svOfConst_ok h⟩
    · cases h
  · cases h

theorem getElem!_some {v : Value} {l : Array Value} {i : Nat} (h : l[i]? = some v) : l[i]! = v := by
  rw [getElem!_def, h]

theorem madeCells_get {z : Array Value} {n j : Nat} {v : Value} (hj : j < n) (h : z[j % z.size]? = some v) : (madeCells z n)[j]? = some v := by
  unfold madeCells
  simp [hj, getElem!_some h]

theorem flatten_made {R : SC → Value → Prop} {zc : List SC} {zv : Array Value} (h : All2 R zc zv.toList) (hw : 0 < zv.size) : ∀ n, All2 R (List.replicate n zc).flatten (madeCells zv (n * zv.size)).toList := by
  intro n
  have hl := h.length
  simp at hl
  refine All2.of_get (by simp [hl, size_madeCells]) fun i c hi => ?_
  have hlt := (List.getElem?_eq_some_iff.1 hi).1
  simp [hl] at hlt
  have hm : i % zv.size < zc.length := by rw [hl]; exact Nat.mod_lt _ hw
  have hc : zc[i % zv.size]? = some c := by
    clear hm
    have key : ∀ (n i : Nat) (c : SC), (List.replicate n zc).flatten[i]? = some c → zc[i % zv.size]? = some c := by
      intro n
      induction n with
      | zero => intro i c h; simp at h
      | succ n ih =>
        intro i c h
        rw [List.replicate_succ, List.flatten_cons] at h
        rcases Nat.lt_or_ge i zc.length with hlt | hge
        · rw [List.getElem?_append_left hlt] at h
          rw [Nat.mod_eq_of_lt (by omega)]; exact h
        · rw [List.getElem?_append_right hge] at h
          have := ih _ _ h
          rw [hl] at this hge
          rw [Nat.mod_eq_sub_mod hge]; exact this
    exact key n i c hi
  obtain ⟨v, hv, hR⟩ := h.get hc
  refine ⟨v, ?_, hR⟩
  have := madeCells_get (z := zv) (n := n * zv.size) hlt (by simpa using hv)
  simpa using this

end Vx
