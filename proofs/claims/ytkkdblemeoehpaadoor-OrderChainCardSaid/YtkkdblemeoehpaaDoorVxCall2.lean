/- copy and append. -/
import Derived.Test.YtkkdblemeoehpaaDoorVxCall1
namespace Vx
open Go Go.RowKit

variable {C : Cfg} {base : World} {S0 : Nat → Prop} {σ : Sit} {s : St} {a : Act} {ctx : List (Nat × Bool)} {o : Oper} {x : TV} {mem' : Mem}

theorem putAt_get : ∀ (L : List Value) (vs : Array Value) (p q : Nat), p + L.length ≤ vs.size → (putAt vs p L)[q]? = if p ≤ q ∧ q < p + L.length then L[q - p]? else vs[q]? := by
  intro L vs p q h
  rw [← Array.getElem?_toList, putAt_toList L vs p h, List.append_assoc]
  split
  · rename_i hq
    rw [List.getElem?_append_right (by simp; omega)]
    have : (List.take p vs.toList).length = p := by simp; omega
    rw [this, List.getElem?_append_left (by omega)]
  · rename_i hq
    rcases Nat.lt_or_ge q p with hlt | hge
    · rw [List.getElem?_append_left (by simp; omega), List.getElem?_take_of_lt hlt]; simp
    · rw [List.getElem?_append_right (by simp; omega)]
      have : (List.take p vs.toList).length = p := by simp; omega
      rw [this, List.getElem?_append_right (by omega), List.getElem?_drop]
      rw [show p + L.length + (q - p - L.length) = q by omega]; simp

/-- rows of data in a list of cells -/
def LRows (w : World) (S : Nat → Prop) (e : Shape) (L : List Value) (xs : List (Den e)) : Prop :=
  ∀ i x, xs[i]? = some x → ∃ ds, DRep w S e x ds ∧ ∀ j d, ds[j]? = some d → L[i * e.width + j]? = some d

theorem row_lt {i k w j : Nat} (h : i < k) (hj : j < w) : i * w + j < k * w := by
  have := Nat.mul_le_mul_right w (show i + 1 ≤ k by omega)
  rw [Nat.succ_mul] at this
  omega

/-- what reads from a row's beginning -/
theorem first_rows {P : Program} {w : World} {S : Nat → Prop} {e : Shape} {ys : List (Den e)} {A : Option Addr} {m c : Nat} (hne : ys ≠ [] → ∃ r q vs T fz, A = some ⟨r, q, none⟩ ∧ w.heap[r]? = some (.cells vs T fz) ∧ Rows w S e vs q ys) {n : Nat} (hn : n ≤ ys.length) :
    ∃ L : List Value, (Builtin.firstCells e.width n (.slice A m c)).run P w = .ok L.toArray w ∧ L.length = n * e.width ∧ LRows w S e L (ys.take n) ∧ (∀ v ∈ L, scalar v) := by
  rcases Nat.eq_zero_or_pos n with h0 | hpos
  · subst h0
    refine ⟨[], ?_, by simp, fun i x hi => by simp at hi, by simp⟩
    cases A with
    | none => simp [Builtin.firstCells]
    | some ad => simp [Builtin.firstCells, loadCells, loadCellsFrom]
  · have hys : ys ≠ [] := by intro e; subst e; simp at hn; omega
    obtain ⟨r, q, vs, T, fz, rfl, hh, hrow⟩ := hne hys
    have hsz : q + n * e.width ≤ vs.size ∨ e.width = 0 := by
      rcases Nat.eq_zero_or_pos e.width with hw | hw
      · exact .inr hw
      · left
        obtain ⟨ds, d1, d2⟩ := hrow (n - 1) (ys.getD (n - 1) e.dflt) (getD_some (by omega))
        have hdl := d1.len
        obtain ⟨v, hv⟩ : ∃ v, ds[e.width - 1]? = some v := ⟨ds[e.width - 1]'(by omega), List.getElem?_eq_getElem (by omega)⟩
        have := (Array.getElem?_eq_some_iff.1 (d2 _ _ hv)).1
        have h1 : (n - 1) * e.width + e.width = n * e.width := by
          rw [← Nat.succ_mul]; congr 1; omega
        omega
    have hfirst : (ys.take n).length = n := by simp; omega
    rcases hsz with hsz | hw0
    · refine ⟨(vs.toList.drop q).take (n * e.width), by simp [Builtin.firstCells, run_loadCells_of hh hsz], by simp; omega, fun i x hi => ?_, ?_⟩
      · have hin := (List.getElem?_eq_some_iff.1 hi).1
        rw [hfirst] at hin
        rw [List.getElem?_take_of_lt hin] at hi
        obtain ⟨ds, d1, d2⟩ := hrow i x hi
        refine ⟨ds, d1, fun j d hj => ?_⟩
        have hjl := (List.getElem?_eq_some_iff.1 hj).1
        rw [d1.len] at hjl
        rw [List.getElem?_take_of_lt (row_lt hin hjl), List.getElem?_drop]
        have := d2 j d hj
        rw [← Nat.add_assoc]
        simpa using this
      · intro v hv
        obtain ⟨k, hk⟩ := List.mem_iff_getElem?.1 hv
        have hkl := (List.getElem?_eq_some_iff.1 hk).1
        have hkn : k < n * e.width := by simp at hkl; omega
        rw [List.getElem?_take_of_lt hkn, List.getElem?_drop] at hk
        have hw : 0 < e.width := by
          rcases Nat.eq_zero_or_pos e.width with h | h
          · rw [h] at hkn; simp at hkn
          · exact h
        have hi : k / e.width < ys.length := Nat.lt_of_lt_of_le ((Nat.div_lt_iff_lt_mul hw).2 hkn) hn
        obtain ⟨ds, d1, d2⟩ := hrow (k / e.width) _ (getD_some (d := e.dflt) hi)
        have hdl := d1.len
        have hjl : k % e.width < ds.length := by rw [hdl]; exact Nat.mod_lt _ hw
        have h2 := d2 (k % e.width) _ (List.getElem?_eq_getElem hjl)
        have h3 : q + k / e.width * e.width + k % e.width = q + k := by
          have := Nat.div_add_mod k e.width
          rw [Nat.mul_comm] at this
          omega
        rw [h3] at h2
        have h4 : vs.toList[q + k]? = some ds[k % e.width] := by simpa using h2
        rw [hk] at h4
        cases h4
        exact d1.scalar _ (List.getElem_mem _)
    · refine ⟨[], by rw [hw0]; simp [Builtin.firstCells, loadCells, loadCellsFrom], by rw [hw0]; simp, fun i x hi => ?_, by simp⟩
      have hin := (List.getElem?_eq_some_iff.1 hi).1
      rw [hfirst] at hin
      rw [List.getElem?_take_of_lt hin] at hi
      obtain ⟨ds, d1, d2⟩ := hrow i x hi
      refine ⟨ds, d1, fun j d hj => ?_⟩
      have hjl := (List.getElem?_eq_some_iff.1 hj).1
      rw [d1.len, hw0] at hjl
      omega

/-- what reads from a slice's beginning -/
theorem first_run {P : Program} {e : Shape} {ys : List (Den e)} {y : Value} (hd : DRep σ.w σ.S (.slice e) ys [y]) {n : Nat} (hn : n ≤ ys.length) :
    ∃ L : List Value, (Builtin.firstCells e.width n y).run P σ.w = .ok L.toArray σ.w ∧ L.length = n * e.width ∧ LRows σ.w σ.S e L (ys.take n) ∧ (∀ v ∈ L, scalar v) := by
  obtain ⟨A, c, hy, hc, hl, hne⟩ := hd
  cases hy
  exact first_rows (fun h => by obtain ⟨r, q, vs, T, fz, h1, _, h2, h3⟩ := hne h; exact ⟨r, q, vs, T, fz, h1, h2, h3⟩) hn

theorem rows_put {w : World} {S : Nat → Prop} {e : Shape} {vs : Array Value} {xs ys : List (Den e)} {L : List Value} {k : Nat} (hx : Rows w S e vs 0 xs) (hy : LRows w S e L ys) (hl : L.length = ys.length * e.width) (hk : k ≤ xs.length)
    (hfit : k * e.width + L.length ≤ vs.size) : Rows w S e (putAt vs (k * e.width) L) 0 (xs.take k ++ ys ++ xs.drop (k + ys.length)) := by
  intro i x hi
  rw [List.append_assoc] at hi
  have hkl : (xs.take k).length = k := by simp; omega
  rcases Nat.lt_or_ge i k with h1 | h1
  · rw [List.getElem?_append_left (by omega), List.getElem?_take_of_lt h1] at hi
    obtain ⟨ds, d1, d2⟩ := hx i x hi
    refine ⟨ds, d1, fun j d hj => ?_⟩
    have hjl := (List.getElem?_eq_some_iff.1 hj).1
    rw [d1.len] at hjl
    have := row_lt h1 hjl
    rw [putAt_get _ _ _ _ hfit, if_neg (by omega)]
    exact d2 j d hj
  · rw [List.getElem?_append_right (by omega), hkl] at hi
    rcases Nat.lt_or_ge (i - k) ys.length with h2 | h2
    · rw [List.getElem?_append_left h2] at hi
      obtain ⟨ds, d1, d2⟩ := hy (i - k) x hi
      refine ⟨ds, d1, fun j d hj => ?_⟩
      have hjl := (List.getElem?_eq_some_iff.1 hj).1
      rw [d1.len] at hjl
      have h3 := row_lt h2 hjl
      have h4 : (i - k) * e.width + k * e.width = i * e.width := by rw [← Nat.add_mul]; congr 1; omega
      rw [putAt_get _ _ _ _ hfit, if_pos (by omega)]
      rw [show 0 + i * e.width + j - k * e.width = (i - k) * e.width + j by omega]
      exact d2 j d hj
    · rw [List.getElem?_append_right h2, List.getElem?_drop] at hi
      rw [show k + ys.length + (i - k - ys.length) = i by omega] at hi
      obtain ⟨ds, d1, d2⟩ := hx i x hi
      refine ⟨ds, d1, fun j d hj => ?_⟩
      have h3 := Nat.mul_le_mul_right e.width (show k + ys.length ≤ i by omega)
      rw [Nat.add_mul] at h3
      rw [putAt_get _ _ _ _ hfit, if_neg (by omega)]
      exact d2 j d hj

theorem LRows.mono {w w' : World} {S S' : Nat → Prop} (hS : ∀ r, S r → S' r) (hH : ∀ r, S r → w'.heap[r]? = w.heap[r]?) {e : Shape} {L : List Value} {xs : List (Den e)}
    (h : LRows w S e L xs) : LRows w' S' e L xs := fun i x hi => by
  obtain ⟨ds, h1, h2⟩ := h i x hi
  exact ⟨ds, h1.mono hS hH, h2⟩

theorem lenOf_run {P : Program} {e : Shape} {ys : List (Den e)} {y : Value} (hd : DRep σ.w σ.S (.slice e) ys [y]) (w : World) : (Builtin.lenOf y).run P w = .ok ys.length w := by
  obtain ⟨A, c, hy, _⟩ := hd
  cases hy
  rfl

theorem op_copy (ho : Ok base S0 σ) (hr : RelT σ s a) (hx : CtxOk a ctx) {c : Call} (hop : o.op = .call c) (hc : c.callee = .builtin .copy) (h : plainOp C s ctx o = some (.ok true x mem')) : Good C base S0 id σ a o x mem' := by
  unfold plainOp at h
  rw [hop] at h
  simp only [hc] at h
  split at h
  · rename_i y z T Ts e1 e2
    split at h
    · rename_i e b yc hT eb ey
      split at h
      · rename_i τ eτ
        cases hf : freeze1 s.mem yc with
        | mk yc' m1 =>
          rw [hf] at h
          simp only at h
          rw [← hr.mem] at hf
          obtain ⟨σ1, a1, a2, a3, a4, a5, a6⟩ := freeze1_ok ho hf
          split at h
          · rename_i ys τ' xs0 eys exs
            split at h
            · rename_i xs ecast
              obtain ⟨hττ, hxs⟩ := castL_eq ecast
              subst hττ
              simp only at hxs
              subst hxs
              simp only [Option.some.injEq, Res.ok.injEq, true_and] at h
              obtain ⟨rfl, rfl⟩ := h
              have hd := asList_ok (a6 _ (ev1_ok hr hx ey)) (freeze1_not_own hf) (by rw [a1]; exact eys)
              have hb := a5.repC (ev1_ok hr hx eb)
              rw [← a1] at exs
              obtain ⟨hlt, _, hm⟩ := hb
              rw [exs] at hm
              obtain ⟨r, hβ, hy⟩ := hm
              have he := a4.ent b
              unfold MemAt at he
              rw [exs] at he
              obtain ⟨hl0, r', vs, T', h1, h2, h3, h4⟩ := he
              rw [hβ] at h1; cases h1
              have hown : σ1.owned b r := ⟨by rw [exs]; trivial, hβ⟩
              have hrl := (a4.own b r hown).2.1
              obtain ⟨L, f1, f2, f3, f4⟩ := first_run (P := C.P) hd (n := Nat.min ys.length xs.length) (Nat.min_le_left _ _)
              have hmin : (ys.take (Nat.min ys.length xs.length)).length = Nat.min ys.length xs.length := by simp
              have hnle : Nat.min ys.length xs.length ≤ xs.length := Nat.min_le_right _ _
              have hfit : 0 * τ'.width + L.length ≤ vs.size := by
                rw [f2, h3]
                have := Nat.mul_le_mul_right τ'.width hnle
                omega
              have hrows := rows_put (k := 0) h4 f3 (by rw [hmin]; exact f2) (Nat.zero_le _) hfit
              have hres : xs.take 0 ++ ys.take (Nat.min ys.length xs.length) ++ xs.drop (0 + (ys.take (Nat.min ys.length xs.length)).length) = ys.take xs.length ++ xs.drop ys.length := by
                rw [hmin]
                simp only [List.take_zero, List.nil_append, Nat.zero_add]
                rcases Nat.le_total ys.length xs.length with hle | hle
                · have : Nat.min ys.length xs.length = ys.length := Nat.min_eq_left hle
                  rw [this, List.take_of_length_le (Nat.le_refl _), List.take_of_length_le hle]
                · have : Nat.min ys.length xs.length = xs.length := Nat.min_eq_right hle
                  rw [this, List.drop_of_length_le (Nat.le_refl _), List.drop_of_length_le hle]
              rw [hres] at hrows
              have hlen : (ys.take xs.length ++ xs.drop ys.length).length = xs.length := by simp; omega
              obtain ⟨g1, g2⟩ := store_ok a4 hown (e := .arr τ' (ys.take xs.length ++ xs.drop ys.length)) (vs := putAt vs (0 * τ'.width) L) (T := T') (by rw [exs]; exact ⟨_, rfl, hlen⟩) (fun hg => by
                unfold MemAt
                simp only [Sit.store]
                rw [blkAt_set hlt, if_pos rfl]
                exact ⟨by rw [hlen]; exact hl0, r, _, T', hβ, heap_wset_eq hrl, by rw [putAt_size, h3, hlen], hrows.mono hg.stab hg.heap⟩)
              refine good_at (σ' := σ1.store b r (.arr τ' (ys.take xs.length ++ xs.drop ys.length)) (putAt vs (0 * τ'.width) L) T') (v := .int .i64 ((min ys.length xs.length : Nat) : Int)) ?_ g1 (a5.trans g2).moves (by simp [Sit.store, a1]) ⟨rfl, int_len (by omega)⟩
              obtain ⟨cs, hcs⟩ := run_builtin (a := a) (P := C.P) hop hc σ.w
              rw [hcs, args_of e1, types_of e2]
              simp only [builtin]
              refine run_v ?_
              unfold Builtin.copy_
              simp only [List.map_cons, List.map_nil, List.getElem?_toArray, List.getElem?_cons_zero, List.getElem?_cons_succ, hy]
              simp only [Sem.run_bind, run_und hT, Result.andThen_ok, lenOf_run hd, run_size (elemSh_info eτ), elemSh_ok eτ]
              rw [← a2, f1]
              simp only [Result.andThen_ok]
              have h0 := run_storeCells (P := C.P) (r := r) (o := 0) (T := T') L 0 σ1.w vs h2 (by simpa using hfit) f4
              rw [h0]
              simp [goInt, Sit.store]
            · cases h
          · cases h
      · cases h
    · cases h
  · cases h

end Vx
