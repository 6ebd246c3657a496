/- Loads, stores, building: lists and what the model does. -/
import Derived.Test.YtkkdblemeoehpaaDoorVxOps2
namespace Vx
open Go Go.RowKit

theorem takeN_eq : ∀ {n : Nat} {l r : List SC}, takeN n l = some r → r = l.take n ∧ n ≤ l.length
  | 0, l, r, h => by simp [takeN] at h; subst h; simp
  | n + 1, [], r, h => by simp [takeN] at h
  | n + 1, c :: l, r, h => by
    simp only [takeN] at h
    split at h
    · rename_i l' e
      cases h
      obtain ⟨h1, h2⟩ := takeN_eq e
      exact ⟨by simp [h1], by simp; omega⟩
    · cases h

theorem dropN_eq : ∀ {n : Nat} {l : List SC}, dropN n l = l.drop n
  | 0, l => by simp [dropN]
  | n + 1, [] => by simp [dropN]
  | n + 1, c :: l => by simp [dropN, dropN_eq]

theorem lenIs_eq : ∀ {n : Nat} {l : List SC}, lenIs n l = true → l.length = n
  | 0, [], _ => rfl
  | 0, _ :: _, h => by simp [lenIs] at h
  | n + 1, [], h => by simp [lenIs] at h
  | n + 1, c :: l, h => by simp only [lenIs] at h; simp [lenIs_eq h]

theorem All2.take {α β : Type} {R : α → β → Prop} : ∀ {as : List α} {bs : List β} (n : Nat), All2 R as bs → All2 R (as.take n) (bs.take n)
  | _, _, 0, _ => by simp; exact .nil
  | _, _, n + 1, .nil => by simp; exact .nil
  | _, _, n + 1, .cons h t => by simpa using .cons h (t.take n)

theorem All2.drop {α β : Type} {R : α → β → Prop} : ∀ {as : List α} {bs : List β} (n : Nat), All2 R as bs → All2 R (as.drop n) (bs.drop n)
  | _, _, 0, h => by simpa using h
  | _, _, n + 1, .nil => by simp; exact .nil
  | _, _, n + 1, .cons h t => by simpa using t.drop n

theorem splice_eq : ∀ {n : Nat} {new old r : List SC}, splice n new old = some r → r = old.take n ++ new ++ old.drop (n + new.length) ∧ n + new.length ≤ old.length
  | 0, [], old, r, h => by simp [splice] at h; subst h; simp
  | 0, _ :: _, [], r, h => by simp [splice] at h
  | 0, c :: new, _ :: old, r, h => by
    simp only [splice] at h
    split at h
    · rename_i l e
      cases h
      obtain ⟨h1, h2⟩ := splice_eq e
      refine ⟨?_, by simp; omega⟩
      simp at h1
      simp [h1]
    · cases h
  | n + 1, [], [], r, h => by simp [splice] at h
  | n + 1, _ :: _, [], r, h => by simp [splice] at h
  | n + 1, new, c :: old, r, h => by
    simp only [splice] at h
    split at h
    · rename_i l e
      cases h
      obtain ⟨h1, h2⟩ := splice_eq e
      refine ⟨?_, by simp; omega⟩
      rw [h1]
      simp [show n + 1 + new.length = (n + new.length) + 1 by omega]
    · cases h

theorem putAt_toList : ∀ (l : List Value) (vs : Array Value) (o : Nat), o + l.length ≤ vs.size → (putAt vs o l).toList = vs.toList.take o ++ l ++ vs.toList.drop (o + l.length)
  | [], vs, o, _ => by simp [putAt]
  | v :: l, vs, o, h => by
    simp only [List.length_cons] at h
    rw [putAt, putAt_toList l _ (o + 1) (by simp; omega)]
    simp only [Array.toList_setIfInBounds]
    have h1 : (vs.toList.set o v).take (o + 1) = vs.toList.take o ++ [v] := by
      rw [List.take_set, List.take_succ_eq_append_getElem (by simp; omega)]
      rw [List.set_append_right _ _ (by simp; omega)]
      simp [Nat.min_eq_left (show o ≤ vs.size by omega)]
    have h2 : (vs.toList.set o v).drop (o + 1 + l.length) = vs.toList.drop (o + (v :: l).length) := by
      rw [List.drop_set_of_lt (by omega)]
      simp [show o + 1 + l.length = o + (l.length + 1) by omega]
    rw [h1, h2]
    simp

theorem All2.splice {R : SC → Value → Prop} {n : Nat} {new old r : List SC} {vs : Array Value} {ys : List Value} (h : Vx.splice n new old = some r) (ho : All2 R old vs.toList) (hn : All2 R new ys) :
    All2 R r (putAt vs n ys).toList ∧ n + ys.length ≤ vs.size := by
  obtain ⟨h1, h2⟩ := splice_eq h
  have l1 := hn.length
  have l2 := ho.length
  have hle : n + ys.length ≤ vs.size := by simp at l2; omega
  refine ⟨?_, hle⟩
  rw [putAt_toList _ _ _ hle, h1, ← l1]
  exact ((ho.take n).append hn).append (ho.drop _)

theorem foldl_putAt : ∀ (l : List Value) (k : Nat) (cs : Array Value) (off : Nat), (l.zipIdx k).foldl (fun cs p => cs.setIfInBounds (off + p.2) p.1) cs = putAt cs (off + k) l
  | [], _, _, _ => rfl
  | v :: l, k, cs, off => by
    simp only [List.zipIdx_cons, List.foldl_cons, putAt]
    rw [foldl_putAt l (k + 1) _ off]
    rfl

theorem fill_ok {R : SC → Value → Prop} (place : Nat → Option (Nat × Nat)) : ∀ {ps : List (Nat × SV)} {qs : List (Nat × Value)} {old r : List SC} {vs : Array Value}, svSplice place ps old = some r → All2 R old vs.toList →
    All2 (fun p q => p.1 = q.1 ∧ All2 R p.2.cells q.2.cells.toList) ps qs → ∃ vs', Instr.fill place vs qs = some vs' ∧ All2 R r vs'.toList
  | [], _, old, r, vs, h, ho, .nil => by
    simp only [svSplice] at h; cases h
    exact ⟨vs, rfl, ho⟩
  | (i, x) :: ps, _, old, r, vs, h, ho, .cons (b := (i', y)) hp ht => by
    obtain ⟨rfl, hp⟩ := hp
    simp only [svSplice] at h
    cases hpl : place i with
    | none => rw [hpl] at h; cases h
    | some q =>
      obtain ⟨off, size⟩ := q
      rw [hpl] at h
      simp only at h
      cases hl : lenIs size x.cells with
      | false => rw [hl] at h; cases h
      | true =>
        rw [hl] at h
        simp only [cond_true] at h
        split at h
        · rename_i old' e
          have hx := lenIs_eq hl
          have hle := All2.length hp
          obtain ⟨h1, h2⟩ := All2.splice e ho hp
          have hsz : y.cells.size = size := by simp at hle; omega
          have hfold : y.cells.zipIdx.foldl (fun cs (c, j) => cs.setIfInBounds (off + j) c) vs = putAt vs off y.cells.toList := by
            rw [← Array.foldl_toList, Array.toList_zipIdx]
            exact foldl_putAt y.cells.toList 0 vs off
          obtain ⟨vs', h3, h4⟩ := fill_ok place h h1 ht
          refine ⟨vs', ?_, h4⟩
          simp only [Instr.fill, hpl]
          rw [if_neg (by simp at h2; simp [hsz]; omega)]
          rw [hfold]
          exact h3
        · cases h

theorem zeroSV_ok {P : Program} {σ : Sit} {T : TypeId} {x : SV} (h : zeroSV P T = some x) : ∃ z, RepV σ x z ∧ ∀ w, (zeroValue T).run P w = .ok z w := by
  unfold zeroSV at h
  split at h
  · rename_i i e
    split at h
    · rename_i z e2
      exact ⟨z, svOfConst_ok h, fun w => by simp [zeroValue, typeInfo, e, e2]⟩
    · cases h
  · cases h

theorem run_und {P : Program} {T : TypeId} {d : TypeDesc} (h : P.underlying T = some d) (w : World) : (underlying T).run P w = .ok d w := by
  simp [underlying, h]

theorem aggT_ok {P : Program} {T : TypeId} {b : Bool} (h : aggT P T = some b) (w : World) : (isAgg T).run P w = .ok b w := by
  unfold aggT at h
  unfold isAgg
  split at h
  · rename_i e; cases h; simp [underlying, e]
  · rename_i e; cases h; simp [underlying, e]
  · rename_i d e1 e2 e3
    cases h
    simp only [Sem.run_bind, run_und e3, Result.andThen_ok]
    cases d <;> first | rfl | exact absurd e3 (e1 _) | exact absurd e3 (e2 _ _)
  · cases h

theorem run_size {P : Program} {T : TypeId} {w : World} (h : ∃ i, P.info? T = some i) : (Go.sizeOf T).run P w = .ok (P.cellsOf T) w := by
  obtain ⟨i, h⟩ := h
  simp [Go.sizeOf, typeInfo, h, Program.cellsOf]

theorem info_of_und {P : Program} {T : TypeId} {d : TypeDesc} (h : P.underlying T = some d) : ∃ i, P.info? T = some i := by
  unfold Program.underlying at h
  cases e : P.info? T with
  | some i => exact ⟨i, rfl⟩
  | none => rw [e] at h; cases h

theorem aggT_und {P : Program} {T : TypeId} {b : Bool} (h : aggT P T = some b) : ∃ d, P.underlying T = some d := by
  unfold aggT at h
  split at h
  · exact ⟨_, by assumption⟩
  · exact ⟨_, by assumption⟩
  · exact ⟨_, by assumption⟩
  · cases h

/-- cells as they lie behind a place -/
def Lies (σ : Sit) (cs : List SC) (off : Nat) (y : Value) : Prop :=
  ∃ r o vs T fz ds, y = .pointer (some ⟨r, o + off, none⟩) ∧ σ.w.heap[r]? = some (.cells vs T fz) ∧ All2 (RepC σ) cs ds ∧ ∀ (j : Nat) (d : Value), ds[j]? = some d → vs[o + j]? = some d

theorem cellsAt_ok {base : World} {S0 : Nat → Prop} {σ : Sit} (ho : Ok base S0 σ) {c : SC} {y : Value} {cs : List SC} {off : Nat} (hc : RepC σ c y) (h : cellsAt σ.mem c = some (cs, off)) : Lies σ cs off y := by
  unfold cellsAt at h
  split at h
  · rename_i b off'
    split at h
    · rename_i cs' e
      cases h
      obtain ⟨_, _, hm⟩ := hc
      rw [e] at hm
      obtain ⟨r, hr, rfl⟩ := hm
      have he := ho.ent b
      unfold MemAt at he
      rw [e] at he
      obtain ⟨r', vs, T, h1, h2, h3⟩ := he
      rw [hr] at h1; cases h1
      exact ⟨r, 0, vs, T, (0, 0), vs.toList, by simp, h2, h3, fun j d hj => by simpa using hj⟩
    · cases h
  · rename_i b i off'
    split at h
    · rename_i τ xs e
      cases h
      obtain ⟨_, _, hm⟩ := hc
      rw [e] at hm
      obtain ⟨hi, r, hr, rfl⟩ := hm
      have he := ho.ent b
      unfold MemAt at he
      rw [e] at he
      obtain ⟨_, r', vs, T, h1, h2, h3, h4⟩ := he
      rw [hr] at h1; cases h1
      have hx : xs[i]? = some (xs.getD i τ.dflt) := by
        rw [List.getD_eq_getElem?_getD, List.getElem?_eq_getElem hi]; rfl
      obtain ⟨ds, d1, d2⟩ := h4 i _ hx
      exact ⟨r, i * τ.width, vs, T, (0, 0), ds, rfl, h2, cellsOf_rep d1, fun j d hj => by simpa using d2 j d hj⟩
    · cases h
  · rename_i τ x off'
    cases h
    obtain ⟨r, o, vs, T, fz, ds, rfl, _, h2, h3, h4⟩ := hc
    exact ⟨r, o, vs, T, fz, ds, rfl, h2, cellsOf_rep h3, h4⟩
  · cases h

theorem load_agg {P : Program} {σ : Sit} {T : TypeId} {cs l : List SC} {off : Nat} {y : Value} (hl : Lies σ cs off y) (hT : aggT P T = some true) (h : takeN (P.cellsOf T) (dropN off cs) = some l) :
    ∃ v, (Instr.loadAt T y).run P σ.w = .ok v σ.w ∧ RepV σ (.agg l) v := by
  obtain ⟨r, o, vs, T', fz, ds, rfl, h2, h3, h4⟩ := hl
  obtain ⟨h5, h6⟩ := takeN_eq h
  rw [dropN_eq] at h5 h6
  have hlen := h3.length
  have hn : P.cellsOf T ≤ (ds.drop off).length := by simp at h6 ⊢; omega
  have hcells := run_loadCells_list (P := P) (w := σ.w) ⟨r, o + off, none⟩ ((ds.drop off).take (P.cellsOf T)) (fun j v hj => by
    rw [addr_add, cell_of h2]
    have hj' := (List.getElem?_eq_some_iff.1 hj).1
    rw [List.getElem?_take_of_lt (by simp at hj'; omega), List.getElem?_drop] at hj
    rw [Nat.add_assoc]
    exact h4 _ _ hj)
  rw [show ((ds.drop off).take (P.cellsOf T)).length = P.cellsOf T by rw [List.length_take]; omega] at hcells
  refine ⟨.agg ((ds.drop off).take (P.cellsOf T)).toArray, ?_, ⟨_, rfl, ?_⟩⟩
  · unfold Instr.loadAt loadVar Instr.sureAddr
    obtain ⟨d, hd⟩ := aggT_und hT
    simp [aggT_ok hT, run_size (info_of_und hd), hcells]
  · rw [h5]; exact (h3.drop off).take _

theorem load_one {P : Program} {σ : Sit} {T : TypeId} {cs l : List SC} {c : SC} {off : Nat} {y : Value} (hl : Lies σ cs off y) (hT : aggT P T = some false) (h : dropN off cs = c :: l) :
    ∃ v, (Instr.loadAt T y).run P σ.w = .ok v σ.w ∧ RepC σ c v := by
  obtain ⟨r, o, vs, T', fz, ds, rfl, h2, h3, h4⟩ := hl
  rw [dropN_eq] at h
  have hc : cs[off]? = some c := by
    have := congrArg (fun l => l[0]?) h
    simpa using this
  obtain ⟨v, hv, hR⟩ := h3.get hc
  refine ⟨v, ?_, hR⟩
  unfold Instr.loadAt loadVar Instr.sureAddr
  have : σ.w.cell? ⟨r, o + off, none⟩ = some v := by rw [cell_of h2]; exact h4 off v hv
  simp [aggT_ok hT, this]

end Vx
