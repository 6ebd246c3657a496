/- Binary and unary operations. -/
import Derived.Test.YtkkdblemeoehpaaDoorVxOps
import Derived.Laws.StructEq
namespace Vx
open Go Go.RowKit

theorem run_guard_int {P : Program} {w : World} {op : BinOp} {T : TypeId} {X Y : Operand} {k k' : IntKind} {a b : Int} {f : Unit → Sem Value} :
    (eqGuard op T X Y (.int k a) (.int k' b) >>= f).run P w = (f ()).run P w := by
  cases op <;> rfl
theorem run_guard_bool {P : Program} {w : World} {op : BinOp} {T : TypeId} {X Y : Operand} {a b : Bool} {f : Unit → Sem Value} :
    (eqGuard op T X Y (.bool a) (.bool b) >>= f).run P w = (f ()).run P w := by
  cases op <;> rfl
theorem run_guard_string {P : Program} {w : World} {op : BinOp} {T : TypeId} {X Y : Operand} {a b : ByteArray} {f : Unit → Sem Value} :
    (eqGuard op T X Y (.string a) (.string b) >>= f).run P w = (f ()).run P w := by
  cases op <;> rfl
theorem run_guard_float {P : Program} {w : World} {op : BinOp} {T : TypeId} {X Y : Operand} {k k' : FloatKind} {a b : Nat} {f : Unit → Sem Value} :
    (eqGuard op T X Y (.float k a) (.float k' b) >>= f).run P w = (f ()).run P w := by
  cases op <;> rfl

theorem run_eq_bool {P : Program} {w : World} {T : TypeId} {a b : Bool} (h : P.underlying T = some .bool) : (Op.equal T (.bool a) (.bool b)).run P w = .ok (a == b) w := by
  unfold Op.equal Op.maxDepth Op.equalIn
  simp [underlying, h]

theorem bin_int {P : Program} {σ : Sit} {op : BinOp} {T : TypeId} {k k' : IntKind} {x y : Int} {r : SC} {w : World}
    (hx : k.min ≤ x ∧ x ≤ k.max) (hy : k'.min ≤ y ∧ y ≤ k'.max) (h : binV op (.v (.int k x)) (.v (.int k' y)) = some (true, r)) :
    ∃ v, (binOp op T (.int k x) (.int k' y)).run P w = .ok v w ∧ RepC σ r v := by
  have hneg : (match k'.signed with | true => decide (0 ≤ y) | false => true) = true → ¬ y < 0 := fun hg => by
    cases hs : k'.signed with
    | true => rw [hs] at hg; simp at hg; omega
    | false =>
      have : k'.min = 0 := by simp [IntKind.min, hs]
      omega
  by_cases hop : op = .shl
  · subst hop
    simp only [binV, Option.some.injEq, Prod.mk.injEq] at h
    obtain ⟨h1, rfl⟩ := h
    exact ⟨_, by simp [binOp, Op.shift, hneg h1], wrap_ok k _⟩
  by_cases hop' : op = .shr
  · subst hop'
    simp only [binV, Option.some.injEq, Prod.mk.injEq] at h
    obtain ⟨h1, rfl⟩ := h
    exact ⟨_, by simp [binOp, Op.shift, hneg h1]; rfl, rfl, shr_range hx _⟩
  by_cases hk : k' = k
  · subst hk
    cases op <;> simp only [binV, if_pos, Option.some.injEq, Prod.mk.injEq, bne_iff_ne] at h
    case shl => exact absurd rfl hop
    case shr => exact absurd rfl hop'
    case quo =>
      obtain ⟨h1, rfl⟩ := h
      exact ⟨_, by simp [binOp, Op.intDiv, h1], wrap_ok k' _⟩
    case rem =>
      obtain ⟨h1, rfl⟩ := h
      exact ⟨_, by simp [binOp, Op.intDiv, h1], rfl, tmod_range hx⟩
    case add => obtain ⟨_, rfl⟩ := h; exact ⟨_, by simp [binOp, Op.intArith], wrap_ok k' _⟩
    case sub => obtain ⟨_, rfl⟩ := h; exact ⟨_, by simp [binOp, Op.intArith], wrap_ok k' _⟩
    case mul => obtain ⟨_, rfl⟩ := h; exact ⟨_, by simp [binOp, Op.intArith], wrap_ok k' _⟩
    case and => obtain ⟨_, rfl⟩ := h; exact ⟨_, by simp [binOp, Op.intBits], wrap_ok k' _⟩
    case or => obtain ⟨_, rfl⟩ := h; exact ⟨_, by simp [binOp, Op.intBits], wrap_ok k' _⟩
    case xor => obtain ⟨_, rfl⟩ := h; exact ⟨_, by simp [binOp, Op.intBits], wrap_ok k' _⟩
    case andNot => obtain ⟨_, rfl⟩ := h; exact ⟨_, by simp [binOp, Op.intBits], wrap_ok k' _⟩
    case eql => obtain ⟨_, rfl⟩ := h; exact ⟨_, by simp [binOp, Op.intCmp], rfl, trivial⟩
    case neq => obtain ⟨_, rfl⟩ := h; exact ⟨_, by simp [binOp, Op.intCmp], rfl, trivial⟩
    case lss => obtain ⟨_, rfl⟩ := h; exact ⟨_, by simp [binOp, Op.intCmp], rfl, trivial⟩
    case leq => obtain ⟨_, rfl⟩ := h; exact ⟨_, by simp [binOp, Op.intCmp], rfl, trivial⟩
    case gtr => obtain ⟨_, rfl⟩ := h; exact ⟨_, by simp [binOp, Op.intCmp], rfl, trivial⟩
    case geq => obtain ⟨_, rfl⟩ := h; exact ⟨_, by simp [binOp, Op.intCmp], rfl, trivial⟩
  · cases op <;> simp [binV, hk] at h <;> simp_all


theorem beq_bytes (a b : ByteArray) : (a.toList == b.toList) = (a.toList == b.toList) := rfl

/-- two operands that aren't structs, under a type that goes with them -/
theorem binV_ok {P : Program} {σ : Sit} {op : BinOp} {T : TypeId} {X Y : Operand} {c d r : SC} {y z : Value} {w : World} (hT : isBoolT P T = true ∨ ∀ b, c ≠ .v (.bool b))
    (hc : RepC σ c y) (hd : RepC σ d z) (h : binV op c d = some (true, r)) :
    ∃ v, (do eqGuard op T X Y y z; binOp op T y z : Sem Value).run P w = .ok v w ∧ RepC σ r v := by
  unfold binV at h
  split at h
  · rename_i k x k' y'
    obtain ⟨rfl, hx⟩ := hc
    obtain ⟨rfl, hy⟩ := hd
    obtain ⟨v, h1, h2⟩ := bin_int (P := P) (σ := σ) (T := T) (w := w) hx hy h
    exact ⟨v, by rw [run_guard_int]; exact h1, h2⟩
  · rename_i x y'
    obtain ⟨rfl, _⟩ := hc
    obtain ⟨rfl, _⟩ := hd
    have hT' : P.underlying T = some .bool := by
      rcases hT with h1 | h1
      · unfold isBoolT at h1; split at h1
        · assumption
        · cases h1
      · exact absurd rfl (h1 x)
    cases op <;> simp only [Option.some.injEq, Prod.mk.injEq, reduceCtorEq] at h
    case eql => obtain ⟨_, rfl⟩ := h; exact ⟨_, by rw [run_guard_bool]; simp only [binOp, Sem.run_bind, run_eq_bool hT', Result.andThen_ok, Sem.run_pure], rfl, trivial⟩
    case neq => obtain ⟨_, rfl⟩ := h; exact ⟨_, by rw [run_guard_bool]; simp only [binOp, Sem.run_bind, run_eq_bool hT', Result.andThen_ok, Sem.run_pure], rfl, trivial⟩
  · rename_i x y'
    obtain ⟨rfl, _⟩ := hc
    obtain ⟨rfl, _⟩ := hd
    cases op <;> simp only [Option.some.injEq, Prod.mk.injEq, reduceCtorEq] at h
    case eql => obtain ⟨_, rfl⟩ := h; exact ⟨_, by rw [run_guard_string]; rfl, rfl, trivial⟩
    case neq => obtain ⟨_, rfl⟩ := h; exact ⟨_, by rw [run_guard_string]; rfl, rfl, trivial⟩
  · rename_i k x k' y'
    obtain ⟨b1, rfl, _, h1⟩ := hc
    obtain ⟨b2, rfl, _, h2⟩ := hd
    by_cases hk : k' = k
    · subst hk
      have ho : k'.format.order b1 b2 = flord k' x y' := by
        cases x with
        | none =>
          simp only [flord]
          unfold Ieee.Format.order
          cases hq : k'.format.read b1 <;> rw [hq] at h1 <;> first | (simp [Ieee.Datum.isNaN] at h1; done) | rfl
        | some x =>
          simp only at h1; subst h1
          cases y' with
          | none =>
            simp only [flord]
            unfold Ieee.Format.order
            cases hq : k'.format.read b2 <;> rw [hq] at h2 <;> first | (simp [Ieee.Datum.isNaN] at h2; done) | (cases k'.format.read b1 <;> rfl)
          | some y' => simp only at h2; subst h2; rfl
      have hr : ∀ op', op' = op → (binOp op T (.float k' b1) (.float k' b2)) = (match op' with | .add | .sub | .mul | .quo => Op.floatArith op' k' b1 b2 | _ => Op.floatCmp op' k' b1 b2) := fun op' e => by
        subst e; cases op' <;> simp [binOp]
      cases op <;> simp only [if_pos, Option.some.injEq, Prod.mk.injEq, reduceCtorEq] at h
      all_goals (obtain ⟨_, rfl⟩ := h; refine ⟨_, by rw [run_guard_float, hr _ rfl]; simp only [Op.floatCmp, ho]; rfl, rfl, trivial⟩)
    · rw [if_neg hk] at h; cases h
  · cases h

theorem unV_ok {P : Program} {σ : Sit} {op : UnOp} {c r : SC} {y : Value} {w : World} (hc : RepC σ c y) (h : unV op c = some r) :
    ∃ v, (Op.unary op y).run P w = .ok v w ∧ RepC σ r v := by
  unfold unV at h
  split at h
  · obtain ⟨rfl, hx⟩ := hc
    split at h
    · cases h; exact ⟨_, by simp [Op.unary, Op.intArith], wrap_ok _ _⟩
    · cases h; exact ⟨_, by simp [Op.unary, Op.intBits], wrap_ok _ _⟩
    · cases h
  · obtain ⟨rfl, hx⟩ := hc
    split at h
    · cases h; exact ⟨_, by simp [Op.unary], rfl, trivial⟩
    · cases h
  · cases h


theorem run_part1 {P : Program} {w : World} {T : TypeId} {xs : Array Value} {o : Nat} {v : Value} (hT : (∃ k, P.underlying T = some (.int k)) ∨ P.underlying T = some .bool) (h : xs[o]? = some v) :
    (part T xs o).run P w = .ok v w := by
  unfold part isAgg
  rcases hT with ⟨k, hT⟩ | hT <;> simp [underlying, hT, h]

theorem eqFlds_ok {P : Program} {σ : Sit} {w : World} {d : Nat} : ∀ (fs : List Field) (n : Nat) (as bs : List SC) (xs ys : List Value) (r : Bool) (px py : List Value), px.length = n → py.length = n →
    All2 (RepC σ) as xs → All2 (RepC σ) bs ys → eqFlds P n fs as bs = some r → (Op.eqFields (d + 1) (px ++ xs).toArray (py ++ ys).toArray fs).run P w = .ok r w
  | [], n, [], [], _, _, r, px, py, _, _, _, _, h => by
    simp only [eqFlds] at h; cases h
    simp [Op.eqFields]
  | [], n, _ :: _, _, _, _, r, px, py, _, _, _, _, h => by simp [eqFlds] at h
  | [], n, [], _ :: _, _, _, r, px, py, _, _, _, _, h => by simp [eqFlds] at h
  | f :: fs, n, [], _, _, _, r, px, py, _, _, _, _, h => by simp [eqFlds] at h
  | f :: fs, n, _ :: _, [], _, _, r, px, py, _, _, _, _, h => by simp [eqFlds] at h
  | f :: fs, n, a :: as, b :: bs, _, _, r, px, py, hx, hy, .cons (b := u) (bs := xs) ha ta, .cons (b := v) (bs := ys) hb tb, h => by
    simp only [eqFlds] at h
    cases hc : (Nat.beq f.offset n && f.name != "_") with
    | false => rw [hc] at h; cases h
    | true =>
      rw [hc] at h
      simp only [Bool.and_eq_true, bne_iff_ne] at hc
      obtain ⟨h1, h2⟩ := hc
      have h1 : f.offset = n := Nat.eq_of_beq_eq_true h1
      simp only [cond_true] at h
      split at h
      · rename_i x r' e1 e2
        have ih := eqFlds_ok (P := P) (σ := σ) (w := w) (d := d) fs (n + 1) as bs xs ys r' (px ++ [u]) (py ++ [v]) (by simp [hx]) (by simp [hy]) ta tb e2
        simp only [List.append_assoc, List.singleton_append] at ih
        have gx : (px ++ u :: xs).toArray[f.offset]? = some u := by rw [h1, ← hx]; simp
        have gy : (py ++ v :: ys).toArray[f.offset]? = some v := by rw [h1, ← hy]; simp
        have hcell : (∃ k, P.underlying f.type = some (.int k)) ∨ P.underlying f.type = some .bool := by
          unfold eqCell at e1
          split at e1
          · split at e1
            · rename_i k e; exact .inl ⟨k, e⟩
            · cases e1
          · split at e1
            · rename_i e; exact .inr e
            · cases e1
          · cases e1
        have heq : (Op.equalIn (d + 1) f.type u v).run P w = .ok x w := by
          unfold eqCell at e1
          split at e1
          · split at e1
            · rename_i k1 x1 k2 y1 _ kk e
              split at e1
              · rename_i hk
                subst hk
                cases e1
                obtain ⟨rfl, _⟩ := ha
                obtain ⟨rfl, _⟩ := hb
                exact run_equalIn_int w d _ _ _ _ _ e
              · cases e1
            · cases e1
          · split at e1
            · rename_i x1 y1 _ e
              cases e1
              obtain ⟨rfl, _⟩ := ha
              obtain ⟨rfl, _⟩ := hb
              exact run_equalIn_bool' w d _ _ _ e
            · cases e1
          · cases e1
        have hr : r = (x && r') := by
          cases fs with
          | nil =>
            simp only at h; cases h
            cases as <;> cases bs <;> simp [eqFlds] at e2
            subst e2; simp
          | cons _ _ => simp only at h; cases h; rfl
        simp only [Op.eqFields, if_pos h2, Sem.run_bind, run_part1 hcell gx, run_part1 hcell gy, Result.andThen_ok, heq]
        rw [hr]
        cases x
        · simp
        · simpa using ih
      · cases h

theorem eqAgg_ok {P : Program} {σ : Sit} {w : World} {T : TypeId} {X Y : Operand} {fs : Array Field} {a b : List SC} {y z : Value} {r : Bool} (hT : P.underlying T = some (.struct fs))
    (h1 : P.eqGuardType P.depth T = false) (h2 : P.stoodInHeld T = false) (ha : RepV σ (.agg a) y) (hb : RepV σ (.agg b) z) (h : eqFlds P 0 fs.toList a b = some r) :
    (do eqGuard .eql T X Y y z; binOp .eql T y z : Sem Value).run P w = .ok (.bool r) w ∧ (do eqGuard .neq T X Y y z; binOp .neq T y z : Sem Value).run P w = .ok (.bool !r) w := by
  obtain ⟨xs, rfl, ha⟩ := ha
  obtain ⟨ys, rfl, hb⟩ := hb
  have he : (Op.equal T (.agg xs.toArray) (.agg ys.toArray)).run P w = .ok r w := by
    unfold Op.equal Op.maxDepth
    rw [run_equalIn_struct w 9999 T _ _ (by simp [Program.fieldsOf, hT]) h2]
    have hf : P.fieldsOf T = fs := by simp [Program.fieldsOf, hT]
    rw [hf]
    have := eqFlds_ok (P := P) (σ := σ) (w := w) (d := 9998) fs.toList 0 a b xs ys r [] [] rfl rfl ha hb h
    simpa using this
  constructor
  · simp [eqGuard, binOp, h1, he]
  · simp [eqGuard, binOp, h1, he]

end Vx
