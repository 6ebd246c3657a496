/- Freezing, making, storing and loading, by names. -/
import Derived.Test.YtkkdblemeoehpaaDoorVxSit
import Derived.Laws.Sem
import Derived.Laws.World
import Derived.Laws.Cells
namespace Vx
open Go Go.RowKit

/-! ### freezing -/
theorem freeze1_ok {base : World} {S0 : Nat → Prop} {σ : Sit} (ho : Ok base S0 σ) {c c' : SC} {mem' : Mem} (h : freeze1 σ.mem c = (c', mem')) :
    ∃ σ' : Sit, σ'.mem = mem' ∧ σ'.w = σ.w ∧ σ'.E = σ.E ∧ Ok base S0 σ' ∧ Goes σ σ' ∧ ∀ y, RepC σ c y → RepC σ' c' y := by
  have triv : ∀ {d : SC}, (∀ y, RepC σ c y → RepC σ d y) → (d, σ.mem) = (c', mem') → ∃ σ' : Sit, σ'.mem = mem' ∧ σ'.w = σ.w ∧ σ'.E = σ.E ∧ Ok base S0 σ' ∧ Goes σ σ' ∧ ∀ y, RepC σ c y → RepC σ' c' y :=
    fun hd e => by cases e; exact ⟨σ, rfl, rfl, rfl, ho, Goes.refl σ, hd⟩
  cases c with
  | own b =>
    simp only [freeze1] at h
    cases e : blkAt σ.mem b with
    | gone => rw [e] at h; exact triv (d := .undef) (fun y hy => hy.2.1) h
    | raw cs => rw [e] at h; exact triv (d := .undef) (fun y hy => hy.2.1) h
    | arr τ xs =>
      rw [e] at h; simp only at h; cases h
      obtain ⟨σ', h1, h2, h3, h4, h5⟩ := froze ho (.inl e)
      refine ⟨σ', h1, h2, h3, h4, h5, fun y hy => ?_⟩
      have := h5.repC hy
      obtain ⟨_, _, h6⟩ := this
      rw [h1, blkAt_set (blkAt_lt (by rw [e]; simp)), if_pos rfl] at h6
      exact h6
    | acc τ xs =>
      rw [e] at h; simp only at h; cases h
      obtain ⟨σ', h1, h2, h3, h4, h5⟩ := froze ho (.inr e)
      refine ⟨σ', h1, h2, h3, h4, h5, fun y hy => ?_⟩
      have := h5.repC hy
      obtain ⟨_, _, h6⟩ := this
      rw [h1, blkAt_set (blkAt_lt (by rw [e]; simp)), if_pos rfl] at h6
      exact h6
    | froz τ xs =>
      rw [e] at h
      refine triv (fun y hy => ?_) h
      obtain ⟨_, _, h6⟩ := hy
      rw [e] at h6
      exact h6
  | undef => exact triv (fun _ h => h) h
  | v x => exact triv (fun _ h => h) h
  | fl k o => exact triv (fun _ h => h) h
  | sl τ xs => exact triv (fun _ h => h) h
  | ptr b off => exact triv (fun _ h => h) h
  | eptr b i off => exact triv (fun _ h => h) h
  | iptr τ x off => exact triv (fun _ h => h) h
  | gptr g => exact triv (fun _ h => h) h
  | fnv o => exact triv (fun _ h => h) h
  | fn f caps => exact triv (fun _ h => h) h

theorem freezeL_ok {base : World} {S0 : Nat → Prop} : ∀ {cs : List SC} {σ : Sit}, Ok base S0 σ → ∀ {cs' : List SC} {mem' : Mem}, freezeL σ.mem cs = (cs', mem') →
    ∃ σ' : Sit, σ'.mem = mem' ∧ σ'.w = σ.w ∧ σ'.E = σ.E ∧ Ok base S0 σ' ∧ Goes σ σ' ∧ ∀ ys, All2 (RepC σ) cs ys → All2 (RepC σ') cs' ys
  | [], σ, ho, cs', mem', h => by
    simp only [freezeL] at h; cases h
    exact ⟨σ, rfl, rfl, rfl, ho, Goes.refl σ, fun ys h => by cases h; exact .nil⟩
  | c :: cs, σ, ho, cs', mem', h => by
    simp only [freezeL] at h
    cases e1 : freeze1 σ.mem c with
    | mk c1 m1 =>
      rw [e1] at h; simp only at h
      obtain ⟨σ1, a1, a2, a3, a4, a5, a6⟩ := freeze1_ok ho e1
      cases e2 : freezeL m1 cs with
      | mk c2 m2 =>
        rw [e2] at h; simp only at h; cases h
        rw [← a1] at e2
        obtain ⟨σ2, b1, b2, b3, b4, b5, b6⟩ := freezeL_ok a4 e2
        refine ⟨σ2, b1, b2.trans a2, b3.trans a3, b4, a5.trans b5, fun ys hy => ?_⟩
        cases hy with
        | cons h1 h2 => exact .cons (b5.repC (a6 _ h1)) (b6 _ (h2.mono fun _ _ => a5.repC))

theorem freezeSV_ok {base : World} {S0 : Nat → Prop} {σ : Sit} (ho : Ok base S0 σ) {x x' : SV} {mem' : Mem} (h : freezeSV σ.mem x = (x', mem')) :
    ∃ σ' : Sit, σ'.mem = mem' ∧ σ'.w = σ.w ∧ σ'.E = σ.E ∧ Ok base S0 σ' ∧ Goes σ σ' ∧ ∀ y, RepV σ x y → RepV σ' x' y := by
  cases x with
  | one c =>
    simp only [freezeSV] at h
    cases e1 : freeze1 σ.mem c with
    | mk c1 m1 =>
      rw [e1] at h; simp only at h; cases h
      obtain ⟨σ1, a1, a2, a3, a4, a5, a6⟩ := freeze1_ok ho e1
      exact ⟨σ1, a1, a2, a3, a4, a5, a6⟩
  | agg cs =>
    simp only [freezeSV] at h
    cases e1 : freezeL σ.mem cs with
    | mk c1 m1 =>
      rw [e1] at h; simp only at h; cases h
      obtain ⟨σ1, a1, a2, a3, a4, a5, a6⟩ := freezeL_ok ho e1
      exact ⟨σ1, a1, a2, a3, a4, a5, fun y ⟨ys, e, hy⟩ => ⟨ys, e, a6 ys hy⟩⟩

theorem freezeSVs_ok {base : World} {S0 : Nat → Prop} : ∀ {cs : List SV} {σ : Sit}, Ok base S0 σ → ∀ {cs' : List SV} {mem' : Mem}, freezeSVs σ.mem cs = (cs', mem') →
    ∃ σ' : Sit, σ'.mem = mem' ∧ σ'.w = σ.w ∧ σ'.E = σ.E ∧ Ok base S0 σ' ∧ Goes σ σ' ∧ ∀ ys, All2 (RepV σ) cs ys → All2 (RepV σ') cs' ys
  | [], σ, ho, cs', mem', h => by
    simp only [freezeSVs] at h; cases h
    exact ⟨σ, rfl, rfl, rfl, ho, Goes.refl σ, fun ys h => by cases h; exact .nil⟩
  | c :: cs, σ, ho, cs', mem', h => by
    simp only [freezeSVs] at h
    cases e1 : freezeSV σ.mem c with
    | mk c1 m1 =>
      rw [e1] at h; simp only at h
      obtain ⟨σ1, a1, a2, a3, a4, a5, a6⟩ := freezeSV_ok ho e1
      cases e2 : freezeSVs m1 cs with
      | mk c2 m2 =>
        rw [e2] at h; simp only at h; cases h
        rw [← a1] at e2
        obtain ⟨σ2, b1, b2, b3, b4, b5, b6⟩ := freezeSVs_ok a4 e2
        refine ⟨σ2, b1, b2.trans a2, b3.trans a3, b4, a5.trans b5, fun ys hy => ?_⟩
        cases hy with
        | cons h1 h2 => exact .cons (b5.repV (a6 _ h1)) (b6 _ (h2.mono fun _ _ => a5.repV))

/-! ### a new block -/
def upd {α : Type} (f : Nat → α) (b : Nat) (x : α) : Nat → α := fun i => if i = b then x else f i

def Sit.push (σ : Sit) (e : Blk) (o : Obj) (k : Nat) : Sit :=
  { E := { β := upd σ.E.β σ.mem.length (some σ.w.heap.size), κ := upd σ.E.κ σ.mem.length k }, mem := σ.mem ++ [e], w := σ.w.alloc o, S := σ.S }

/-- a name for a row that is nil as yet -/
def Sit.name (σ : Sit) (e : Blk) : Sit :=
  { E := { β := upd σ.E.β σ.mem.length none, κ := upd σ.E.κ σ.mem.length 0 }, mem := σ.mem ++ [e], w := σ.w, S := σ.S }

theorem heap_alloc_lt {w : World} {o : Obj} {r : Nat} (h : r < w.heap.size) : (w.alloc o).heap[r]? = w.heap[r]? := Below.heap_alloc w o r h

theorem push_goes {base : World} {S0 : Nat → Prop} {σ : Sit} (ho : Ok base S0 σ) (e : Blk) (o : Obj) (k : Nat) : Goes σ (σ.push e o k) := by
  refine ⟨fun _ h => h, fun r hr => heap_alloc_lt (ho.stab r hr).1, by simp [Sit.push], fun b hb => ?_⟩
  exact Turns.refl (blkAt_append_lt hb) (by simp [Sit.push, upd]; omega) (by simp [Sit.push, upd]; omega)

theorem name_goes (σ : Sit) (e : Blk) : Goes σ (σ.name e) := by
  refine ⟨fun _ h => h, fun r hr => rfl, by simp [Sit.name], fun b hb => ?_⟩
  exact Turns.refl (blkAt_append_lt hb) (by simp [Sit.name, upd]; omega) (by simp [Sit.name, upd]; omega)

theorem push_ok {base : World} {S0 : Nat → Prop} {σ : Sit} (ho : Ok base S0 σ) (e : Blk) (o : Obj) (k : Nat) (hat : MemAt (σ.push e o k) σ.mem.length) : Ok base S0 (σ.push e o k) := by
  have hg := push_goes ho e o k
  have hlt : ∀ b, ownedB (blkAt (σ.push e o k).mem b) → b ≠ σ.mem.length → ownedB (blkAt σ.mem b) ∧ b < σ.mem.length := fun b h hne => by
    rcases Nat.lt_or_ge b σ.mem.length with h' | h'
    · simp only [Sit.push] at h; rw [blkAt_append_lt h'] at h; exact ⟨h, h'⟩
    · simp only [Sit.push] at h; rw [blkAt_append_gt (by omega)] at h; exact h.elim
  have hold : ∀ b r, (σ.push e o k).owned b r → b ≠ σ.mem.length → σ.owned b r := fun b r h hne => by
    obtain ⟨h1, h2⟩ := h
    obtain ⟨h3, h4⟩ := hlt b h1 hne
    exact ⟨h3, by simpa [Sit.push, upd, hne] using h2⟩
  have hnew : ∀ r, (σ.push e o k).owned σ.mem.length r → r = σ.w.heap.size := fun r h => by
    have := h.2; simp [Sit.push, upd] at this; omega
  refine ⟨ho.below.alloc ho.below.size o, ho.stab0, fun r h => ?_, fun b => ?_, fun b r h => ?_, fun b b' r h h' => ?_⟩
  · have := ho.stab r h; exact ⟨by simp only [Sit.push, World.size_alloc]; omega, this.2⟩
  · by_cases hb : b = σ.mem.length
    · rw [hb]; exact hat
    · rcases Nat.lt_or_ge b σ.mem.length with h' | h'
      · refine MemAt.keep hg (blkAt_append_lt h') (by simp [Sit.push, upd, hb]) (by simp [Sit.push, upd, hb]) (fun r hr => heap_alloc_lt (ho.own b r hr).2.1) (ho.ent b)
      · unfold MemAt; simp only [Sit.push]; rw [blkAt_append_gt (by omega)]; trivial
  · by_cases hb : b = σ.mem.length
    · subst hb
      rw [hnew r h]
      exact ⟨ho.below.size, by simp [Sit.push], fun hs => absurd (ho.stab _ hs).1 (by omega)⟩
    · have := ho.own b r (hold b r h hb)
      exact ⟨this.1, by simp only [Sit.push, World.size_alloc]; omega, this.2.2⟩
  · by_cases hb : b = σ.mem.length <;> by_cases hb' : b' = σ.mem.length
    · rw [hb, hb']
    · subst hb
      have h1 := hnew r h
      have := (ho.own b' r (hold b' r h' hb')).2.1
      omega
    · subst hb'
      have h1 := hnew r h'
      have := (ho.own b r (hold b r h hb)).2.1
      omega
    · exact ho.inj b b' r (hold b r h hb) (hold b' r h' hb')

theorem name_ok {base : World} {S0 : Nat → Prop} {σ : Sit} (ho : Ok base S0 σ) (τ : Shape) : Ok base S0 (σ.name (.acc τ [])) := by
  have hg := name_goes σ (.acc τ [])
  have hold : ∀ b r, (σ.name (.acc τ [])).owned b r → σ.owned b r := fun b r h => by
    obtain ⟨h1, h2⟩ := h
    by_cases hb : b = σ.mem.length
    · subst hb; simp [Sit.name, upd] at h2
    · rcases Nat.lt_or_ge b σ.mem.length with h' | h'
      · simp only [Sit.name] at h1; rw [blkAt_append_lt h'] at h1; exact ⟨h1, by simpa [Sit.name, upd, hb] using h2⟩
      · simp only [Sit.name] at h1; rw [blkAt_append_gt (by omega)] at h1; exact h1.elim
  refine ⟨ho.below, ho.stab0, ho.stab, fun b => ?_, fun b r h => ho.own b r (hold b r h), fun b b' r h h' => ho.inj b b' r (hold b r h) (hold b' r h')⟩
  by_cases hb : b = σ.mem.length
  · subst hb
    unfold MemAt; simp only [Sit.name]; rw [blkAt_append_at]
    simp [upd, lim]
  · rcases Nat.lt_or_ge b σ.mem.length with h' | h'
    · exact MemAt.keep hg (blkAt_append_lt h') (by simp [Sit.name, upd, hb]) (by simp [Sit.name, upd, hb]) (fun r hr => rfl) (ho.ent b)
    · unfold MemAt; simp only [Sit.name]; rw [blkAt_append_gt (by omega)]; trivial

/-! ### a store -/
def wset (w : World) (r : Nat) (o : Obj) : World := { w with heap := w.heap.setIfInBounds r o }

theorem heap_wset_ne {w : World} {r r' : Nat} {o : Obj} (h : r' ≠ r) : (wset w r o).heap[r']? = w.heap[r']? := by
  simp only [wset]; rw [Array.getElem?_setIfInBounds_ne (fun e => h e.symm)]
theorem heap_wset_eq {w : World} {r : Nat} {o : Obj} (h : r < w.heap.size) : (wset w r o).heap[r]? = some o := by
  simp only [wset]; rw [Array.getElem?_setIfInBounds_self_of_lt h]
theorem size_wset {w : World} {r : Nat} {o : Obj} : (wset w r o).heap.size = w.heap.size := by simp [wset]
theorem wset_wset {w : World} {r : Nat} {o o' : Obj} : wset (wset w r o) r o' = wset w r o' := by
  simp only [wset]
  congr 1
  exact Array.setIfInBounds_setIfInBounds ..

theorem setCell_wset {w : World} {r i : Nat} {vs : Array Value} {T : TypeId} {fz : Nat × Nat} {v : Value} (h : w.heap[r]? = some (.cells vs T fz)) :
    w.setCell ⟨r, i, none⟩ v = wset w r (.cells (vs.setIfInBounds i v) T fz) := by
  have hlt := (Array.getElem?_eq_some_iff.1 h).1
  have he := (Array.getElem?_eq_some_iff.1 h).2
  simp only [World.setCell, wset]
  congr 1
  apply Array.ext
  · simp
  · intro j h1 h2
    rw [Array.getElem_modify, Array.getElem_setIfInBounds (by simpa using h1)]
    by_cases hj : r = j
    · subst hj; rw [if_pos rfl, if_pos rfl, he]; rfl
    · rw [if_neg hj, if_neg hj]

theorem cell_of {w : World} {r i : Nat} {vs : Array Value} {T : TypeId} {fz : Nat × Nat} (h : w.heap[r]? = some (.cells vs T fz)) : w.cell? ⟨r, i, none⟩ = vs[i]? := by
  simp [World.cell?, h]
theorem frozen_of {w : World} {r i : Nat} {vs : Array Value} {T : TypeId} (h : w.heap[r]? = some (.cells vs T (0, 0))) : w.frozen? ⟨r, i, none⟩ = false := by
  simp [World.frozen?, h]

def putAt (vs : Array Value) : Nat → List Value → Array Value
  | _, [] => vs
  | o, v :: l => putAt (vs.setIfInBounds o v) (o + 1) l

theorem putAt_size : ∀ (l : List Value) (vs : Array Value) (o : Nat), (putAt vs o l).size = vs.size
  | [], _, _ => rfl
  | _ :: l, vs, o => by rw [putAt, putAt_size l]; simp

theorem addr_add (r o n : Nat) : (⟨r, o, none⟩ : Addr).add n = ⟨r, o + n, none⟩ := by
  unfold Addr.add; split
  · rename_i h; subst h; rfl
  · rfl

theorem run_store1 {P : Program} {w : World} {r i : Nat} {vs : Array Value} {T : TypeId} {v : Value} (h : w.heap[r]? = some (.cells vs T (0, 0))) (hi : i < vs.size) (hv : scalar v) :
    (store ⟨r, i, none⟩ v).run P w = .ok () (wset w r (.cells (vs.setIfInBounds i v) T (0, 0))) := by
  have hc : w.cell? ⟨r, i, none⟩ = some vs[i] := by rw [cell_of h]; simp [hi]
  have hf := frozen_of (i := i) h
  unfold store
  cases v <;> first | exact hv.elim | (rw [← setCell_wset h]; simp [Sem.run, hc, hf])

theorem run_storeCells {P : Program} {r o : Nat} {T : TypeId} : ∀ (l : List Value) (i : Nat) (w : World) (vs : Array Value), w.heap[r]? = some (.cells vs T (0, 0)) →
    o + i + l.length ≤ vs.size → (∀ v ∈ l, scalar v) → (storeCells ⟨r, o, none⟩ l i).run P w = .ok () (wset w r (.cells (putAt vs (o + i) l) T (0, 0)))
  | [], i, w, vs, h, _, _ => by
    have hlt := (Array.getElem?_eq_some_iff.1 h).1
    have he := (Array.getElem?_eq_some_iff.1 h).2
    have : wset w r (.cells vs T (0, 0)) = w := by
      unfold wset
      have : w.heap.setIfInBounds r (.cells vs T (0, 0)) = w.heap := by
        apply Array.ext
        · simp
        · intro j h1 h2
          rw [Array.getElem_setIfInBounds (by simpa using h1)]
          split
          · rename_i hj; subst hj; exact he.symm
          · rfl
      rw [this]
    simp [storeCells, putAt, this]
  | v :: l, i, w, vs, h, hsz, hv => by
    have hlt := (Array.getElem?_eq_some_iff.1 h).1
    simp only [List.length_cons] at hsz
    simp only [storeCells, Sem.run_bind, addr_add]
    rw [run_store1 h (by omega) (hv v (by simp))]
    simp only [Result.andThen_ok]
    rw [run_storeCells l (i + 1) _ (vs.setIfInBounds (o + i) v) (heap_wset_eq hlt) (by simp; omega) (fun x hx => hv x (by simp [hx])), wset_wset]
    rw [putAt, Nat.add_assoc]

theorem run_loadCells_of {P : Program} {w : World} {r o n : Nat} {vs : Array Value} {T : TypeId} {fz : Nat × Nat} (h : w.heap[r]? = some (.cells vs T fz)) (hn : o + n ≤ vs.size) :
    (loadCells ⟨r, o, none⟩ n).run P w = .ok ((vs.toList.drop o).take n).toArray w := by
  have hl : ((vs.toList.drop o).take n).length = n := by simp; omega
  have := run_loadCells_list (P := P) (w := w) ⟨r, o, none⟩ ((vs.toList.drop o).take n) (fun j v hj => by
    rw [addr_add, cell_of h]
    have hj' := (List.getElem?_eq_some_iff.1 hj).1
    rw [List.getElem?_take_of_lt (by omega), List.getElem?_drop] at hj
    simpa using hj)
  rw [hl] at this
  exact this

def Sit.store (σ : Sit) (b r : Nat) (e : Blk) (vs : Array Value) (T : TypeId) : Sit :=
  { E := σ.E, mem := σ.mem.set b e, w := wset σ.w r (.cells vs T (0, 0)), S := σ.S }

theorem store_ok {base : World} {S0 : Nat → Prop} {σ : Sit} (ho : Ok base S0 σ) {b r : Nat} (hb : σ.owned b r) {e : Blk} {vs : Array Value} {T : TypeId}
    (hk : match blkAt σ.mem b with
      | .raw _ => ∃ cs, e = .raw cs
      | .arr τ xs => ∃ xs' : List (Den τ), e = .arr τ xs' ∧ xs'.length = xs.length
      | _ => False)
    (hat : Goes σ (σ.store b r e vs T) → MemAt (σ.store b r e vs T) b) : Ok base S0 (σ.store b r e vs T) ∧ Goes σ (σ.store b r e vs T) := by
  have hlt : b < σ.mem.length := blkAt_lt (by intro h; have := hb.1; rw [h] at this; exact this)
  have hrs := ho.own b r hb
  have hoe : ownedB e := by
    split at hk
    · obtain ⟨cs, rfl⟩ := hk; trivial
    · obtain ⟨xs, rfl, _⟩ := hk; trivial
    · exact hk.elim
  have hg : Goes σ (σ.store b r e vs T) := by
    refine ⟨fun _ h => h, fun r' hr' => heap_wset_ne (fun e => hrs.2.2 (e ▸ hr')), by simp [Sit.store], fun b' hb' => ?_⟩
    by_cases hbb : b' = b
    · subst hbb
      have hset : blkAt (σ.store b' r e vs T).mem b' = e := by simp only [Sit.store]; rw [blkAt_set hlt, if_pos rfl]
      unfold Turns
      split at hk
      · rename_i e1; rw [e1]; obtain ⟨cs, rfl⟩ := hk; exact ⟨rfl, cs, hset⟩
      · rename_i e1; rw [e1]; obtain ⟨xs, rfl, hl⟩ := hk; exact .inl ⟨rfl, xs, hset, hl⟩
      · exact hk.elim
    · exact Turns.refl (by simp only [Sit.store]; rw [blkAt_set hlt, if_neg hbb]) rfl rfl
  have hold : ∀ b' r', (σ.store b r e vs T).owned b' r' → σ.owned b' r' := fun b' r' h => by
    obtain ⟨h1, h2⟩ := h
    simp only [Sit.store] at h1 h2
    rw [blkAt_set hlt] at h1
    split at h1
    · rename_i hbb; subst hbb; exact ⟨hb.1, h2⟩
    · exact ⟨h1, h2⟩
  refine ⟨⟨ho.below.trans ⟨rfl, rfl, rfl, by simp [Sit.store, wset], fun k hk => heap_wset_ne (by omega)⟩, ho.stab0, fun r' h => ?_, fun b' => ?_, fun b' r' h => ?_, fun b1 b2 r' h1 h2 => ho.inj b1 b2 r' (hold _ _ h1) (hold _ _ h2)⟩, hg⟩
  · have := ho.stab r' h; exact ⟨by simp only [Sit.store, size_wset]; exact this.1, this.2⟩
  · by_cases hbb : b' = b
    · subst hbb; exact hat hg
    · refine MemAt.keep hg (by simp only [Sit.store]; rw [blkAt_set hlt, if_neg hbb]) rfl rfl (fun r' hr' => heap_wset_ne (fun e => hbb (ho.inj b' b r (e ▸ hr') hb))) (ho.ent b')
  · have := ho.own b' r' (hold _ _ h); exact ⟨this.1, by simp only [Sit.store, size_wset]; exact this.2.1, this.2.2⟩

end Vx
