/- What a symbolic value stands for in a world, and how that lasts. -/
import Derived.Test.YtkkdblemeoehpaaDoorVxCore
import Derived.Below
import Derived.Laws.Closers25b
namespace Vx
open Go Go.RowKit

theorem cond_some {α : Type} {c : Bool} {x : Option α} {y : α} (h : (bif c then x else none) = some y) : c = true ∧ x = some y := by
  cases c with
  | true => exact ⟨rfl, h⟩
  | false => cases h

theorem ite_some {α : Type} {c : Prop} [Decidable c] {x : Option α} {y : α} (h : (if c then x else none) = some y) : x = some y := by
  split at h
  · exact h
  · cases h

theorem res_mem {g g' : Bool} {x x' : TV} {m m' : Mem} (h : some (Res.ok g x m) = some (Res.ok g' x' m')) : m' = m := by
  cases h; rfl

def lim : Nat := 9223372036854775808

/-- an immediate value: no struct, no tuple -/
def scalar : Value → Prop
  | .agg _ => False
  | .tuple _ => False
  | _ => True

def DRep (w : World) (S : Nat → Prop) : (τ : Shape) → Den τ → List Value → Prop
  | .int k, n, cs => cs = [.int k n] ∧ k.min ≤ n ∧ n ≤ k.max
  | .bool, b, cs => cs = [.bool b]
  | .str, s, cs => cs = [.string s] ∧ s.size < lim
  | .fn, o, cs => cs = [match o with | none => .nilFunc | some f => .func (.func f) #[] #[]]
  | .unit, _, cs => cs = []
  | .slice e, xs, cs => ∃ A c, cs = [.slice A xs.length c] ∧ xs.length ≤ c ∧ c < lim ∧
      (xs ≠ [] → ∃ r o vs T fz, A = some ⟨r, o, none⟩ ∧ S r ∧ w.heap[r]? = some (.cells vs T fz) ∧
        ∀ i x, xs[i]? = some x → ∃ ds, DRep w S e x ds ∧ ∀ j d, ds[j]? = some d → vs[o + i * e.width + j]? = some d)
  | .pair a b, x, cs => ∃ c1 c2, cs = c1 ++ c2 ∧ DRep w S a x.1 c1 ∧ DRep w S b x.2 c2

theorem DRep.len {w : World} {S : Nat → Prop} : ∀ {τ : Shape} {x : Den τ} {cs : List Value}, DRep w S τ x cs → cs.length = τ.width
  | .int _, _, _, h => by rw [h.1]; rfl
  | .bool, _, _, h => by rw [show _ = _ from h]; rfl
  | .str, _, _, h => by rw [h.1]; rfl
  | .fn, _, _, h => by rw [show _ = _ from h]; rfl
  | .unit, _, _, h => by rw [show _ = _ from h]; rfl
  | .slice _, _, _, ⟨A, c, h, _⟩ => by rw [h]; rfl
  | .pair a b, _, _, ⟨c1, c2, h, h1, h2⟩ => by rw [h, List.length_append, h1.len, h2.len]; rfl

theorem DRep.mono {w w' : World} {S S' : Nat → Prop} (hS : ∀ r, S r → S' r) (hH : ∀ r, S r → w'.heap[r]? = w.heap[r]?) :
    ∀ {τ : Shape} {x : Den τ} {cs : List Value}, DRep w S τ x cs → DRep w' S' τ x cs
  | .int _, _, _, h => h
  | .bool, _, _, h => h
  | .str, _, _, h => h
  | .fn, _, _, h => h
  | .unit, _, _, h => h
  | .slice _, _, _, ⟨A, c, h, h1, h2, h3⟩ => ⟨A, c, h, h1, h2, fun hx => by
      obtain ⟨r, o, vs, T, fz, e1, e2, e3, e4⟩ := h3 hx
      refine ⟨r, o, vs, T, fz, e1, hS r e2, (hH r e2).trans e3, fun i x hi => ?_⟩
      obtain ⟨ds, d1, d2⟩ := e4 i x hi
      exact ⟨ds, d1.mono hS hH, d2⟩⟩
  | .pair _ _, _, _, ⟨c1, c2, h, h1, h2⟩ => ⟨c1, c2, h, h1.mono hS hH, h2.mono hS hH⟩

theorem DRep.scalar {w : World} {S : Nat → Prop} : ∀ {τ : Shape} {x : Den τ} {cs : List Value}, DRep w S τ x cs → ∀ v ∈ cs, scalar v
  | .int _, _, _, h => by rw [h.1]; simp [Vx.scalar]
  | .bool, _, _, h => by rw [show _ = _ from h]; simp [Vx.scalar]
  | .str, _, _, h => by rw [h.1]; simp [Vx.scalar]
  | .fn, o, _, h => by rw [show _ = _ from h]; cases o <;> simp [Vx.scalar]
  | .unit, _, _, h => by rw [show _ = _ from h]; simp
  | .slice _, _, _, ⟨A, c, h, _⟩ => by rw [h]; simp [Vx.scalar]
  | .pair a b, _, _, ⟨c1, c2, h, h1, h2⟩ => by
    rw [h]; intro v hv
    rcases List.mem_append.1 hv with hv | hv
    · exact h1.scalar v hv
    · exact h2.scalar v hv

/-- where the names' blocks lie, and the room of rows that grow -/
structure Env where
  β : Nat → Option Nat
  κ : Nat → Nat

structure Sit where
  E : Env
  mem : Mem
  w : World
  S : Nat → Prop

def wfV : Value → Prop
  | .int k n => k.min ≤ n ∧ n ≤ k.max
  | .string s => s.size < lim
  | .bool _ => True
  | .pointer none => True
  | .slice none 0 0 => True
  | .nilFunc => True
  | .nilIface => True
  | _ => False

def fbits : FloatKind → Nat
  | .f32 => 32
  | .f64 => 64

def RepC (σ : Sit) : SC → Value → Prop
  | .undef, y => scalar y
  | .v x, y => y = x ∧ wfV x
  | .fl k o, y => ∃ b, y = .float k b ∧ b < 2 ^ fbits k ∧ (match o with
      | some b' => b = b'
      | none => (k.format.read b).isNaN = true)
  | .sl τ xs, y => DRep σ.w σ.S (.slice τ) xs [y]
  | .own b, y => b < σ.mem.length ∧ scalar y ∧ match blkAt σ.mem b with
      | .arr _ xs => ∃ r, σ.E.β b = some r ∧ y = .slice (some ⟨r, 0, none⟩) xs.length xs.length
      | .acc _ xs => y = .slice ((σ.E.β b).map fun r => ⟨r, 0, none⟩) xs.length (σ.E.κ b)
      | .froz τ xs => DRep σ.w σ.S (.slice τ) xs [y]
      | _ => True
  | .ptr b off, y => b < σ.mem.length ∧ scalar y ∧ match blkAt σ.mem b with
      | .gone => True
      | .froz _ _ => True
      | .acc _ _ => True
      | _ => ∃ r, σ.E.β b = some r ∧ y = .pointer (some ⟨r, off, none⟩)
  | .eptr b i off, y => b < σ.mem.length ∧ scalar y ∧ match blkAt σ.mem b with
      | .arr τ xs => i < xs.length ∧ ∃ r, σ.E.β b = some r ∧ y = .pointer (some ⟨r, i * τ.width + off, none⟩)
      | _ => True
  | .iptr τ x off, y => ∃ r o vs T fz ds, y = .pointer (some ⟨r, o + off, none⟩) ∧ σ.S r ∧ σ.w.heap[r]? = some (.cells vs T fz) ∧
      DRep σ.w σ.S τ x ds ∧ ∀ j d, ds[j]? = some d → vs[o + j]? = some d
  | .gptr g, y => y = .pointer (some ⟨g, 0, none⟩)
  | .fnv o, y => DRep σ.w σ.S .fn o [y]
  | .fn f caps, y => (∀ p ∈ caps, p.1 < σ.mem.length) ∧ scalar y ∧ ((∃ p ∈ caps, match blkAt σ.mem p.1 with | .raw _ => False | _ => True) ∨
      ∃ rs : List Nat, caps.map (fun p => σ.E.β p.1) = rs.map some ∧ y = .func (.func f) #[] ((caps.zip rs).map fun q => Value.pointer (some ⟨q.2, q.1.2, none⟩)).toArray)

theorem RepC.scalar {σ : Sit} {c : SC} {y : Value} (h : RepC σ c y) : scalar y := by
  cases c with
  | undef => exact h
  | v x => obtain ⟨rfl, h⟩ := h; cases y <;> simp_all [wfV, Vx.scalar]
  | fl k o => obtain ⟨b, rfl, _⟩ := h; trivial
  | sl τ xs => exact DRep.scalar h _ (by simp)
  | own b => exact h.2.1
  | ptr b off => exact h.2.1
  | eptr b i off => exact h.2.1
  | iptr τ x off => obtain ⟨_, _, _, _, _, _, rfl, _⟩ := h; trivial
  | gptr g => rw [show _ = _ from h]; trivial
  | fnv o => exact DRep.scalar h _ (by simp)
  | fn f caps => exact h.2.1

/-- Go's list relation, cell by cell -/
inductive All2 {α β : Type} (R : α → β → Prop) : List α → List β → Prop
  | nil : All2 R [] []
  | cons {a b as bs} : R a b → All2 R as bs → All2 R (a :: as) (b :: bs)

theorem All2.length {α β : Type} {R : α → β → Prop} : ∀ {as : List α} {bs : List β}, All2 R as bs → as.length = bs.length
  | _, _, .nil => rfl
  | _, _, .cons _ h => by simp [h.length]

theorem All2.mono {α β : Type} {R R' : α → β → Prop} (hR : ∀ a b, R a b → R' a b) : ∀ {as : List α} {bs : List β}, All2 R as bs → All2 R' as bs
  | _, _, .nil => .nil
  | _, _, .cons h t => .cons (hR _ _ h) (t.mono hR)

theorem All2.mapL {α α' β : Type} {R : α → β → Prop} {R' : α' → β → Prop} (f : α → α') (hR : ∀ a b, R a b → R' (f a) b) : ∀ {as : List α} {bs : List β}, All2 R as bs → All2 R' (as.map f) bs
  | _, _, .nil => .nil
  | _, _, .cons h t => .cons (hR _ _ h) (t.mapL f hR)

theorem All2.append {α β : Type} {R : α → β → Prop} : ∀ {as : List α} {bs : List β} {as' : List α} {bs' : List β}, All2 R as bs → All2 R as' bs' → All2 R (as ++ as') (bs ++ bs')
  | _, _, _, _, .nil, h => h
  | _, _, _, _, .cons h t, h' => .cons h (t.append h')

theorem All2.get {α β : Type} {R : α → β → Prop} : ∀ {as : List α} {bs : List β}, All2 R as bs → ∀ {i : Nat} {a : α}, as[i]? = some a → ∃ b, bs[i]? = some b ∧ R a b
  | _, _, .nil, i, a, h => by simp at h
  | _, _, .cons h t, 0, a, e => by simp at e; subst e; exact ⟨_, rfl, h⟩
  | _, _, .cons h t, i + 1, a, e => by simp at e; simpa using t.get e

theorem All2.split {α β : Type} {R : α → β → Prop} : ∀ {as as' : List α} {bs : List β}, All2 R (as ++ as') bs → ∃ b1 b2, bs = b1 ++ b2 ∧ All2 R as b1 ∧ All2 R as' b2
  | [], _, bs, h => ⟨[], bs, rfl, .nil, h⟩
  | _ :: as, as', _, .cons h t => by
    obtain ⟨b1, b2, rfl, h1, h2⟩ := All2.split (as := as) t
    exact ⟨_ :: b1, b2, rfl, .cons h h1, h2⟩

theorem All2.of_get {α β : Type} {R : α → β → Prop} : ∀ {as : List α} {bs : List β}, as.length = bs.length → (∀ (i : Nat) (a : α), as[i]? = some a → ∃ b, bs[i]? = some b ∧ R a b) → All2 R as bs
  | [], [], _, _ => .nil
  | [], _ :: _, h, _ => by simp at h
  | _ :: _, [], h, _ => by simp at h
  | a :: as, b :: bs, h, hg => by
    obtain ⟨b', hb, hr⟩ := hg 0 a rfl
    simp at hb; subst hb
    exact .cons hr (All2.of_get (by simpa using h) fun i x hx => by simpa using hg (i + 1) x (by simpa using hx))

def RepV (σ : Sit) : SV → Value → Prop
  | .one c, y => RepC σ c y
  | .agg cs, y => ∃ ys : List Value, y = .agg ys.toArray ∧ All2 (RepC σ) cs ys

def RepT (σ : Sit) : TV → Value → Prop
  | .un, _ => True
  | .val x, y => RepV σ x y
  | .tup xs, y => xs.length ≠ 1 ∧ ∃ ys : List Value, y = .tuple ys.toArray ∧ All2 (RepV σ) xs ys

/-- what may become of a name's entry while the others look on -/
def Turns (σ σ' : Sit) (b : Nat) : Prop :=
  match blkAt σ.mem b with
  | .gone => blkAt σ'.mem b = .gone
  | .raw _ => σ'.E.β b = σ.E.β b ∧ ∃ cs, blkAt σ'.mem b = .raw cs
  | .arr τ xs => (σ'.E.β b = σ.E.β b ∧ ∃ xs' : List (Den τ), blkAt σ'.mem b = .arr τ xs' ∧ xs'.length = xs.length) ∨
      (∃ xs' : List (Den τ), blkAt σ'.mem b = .froz τ xs' ∧ ∀ r, σ.E.β b = some r → DRep σ'.w σ'.S (.slice τ) xs' [.slice (some ⟨r, 0, none⟩) xs.length xs.length])
  | .acc τ xs => (σ'.E.β b = σ.E.β b ∧ σ'.E.κ b = σ.E.κ b ∧ blkAt σ'.mem b = .acc τ xs) ∨
      (blkAt σ'.mem b = .froz τ xs ∧ DRep σ'.w σ'.S (.slice τ) xs [.slice ((σ.E.β b).map fun r => ⟨r, 0, none⟩) xs.length (σ.E.κ b)])
  | .froz τ xs => blkAt σ'.mem b = .froz τ xs

structure Goes (σ σ' : Sit) : Prop where
  stab : ∀ r, σ.S r → σ'.S r
  heap : ∀ r, σ.S r → σ'.w.heap[r]? = σ.w.heap[r]?
  len : σ.mem.length ≤ σ'.mem.length
  turns : ∀ b, b < σ.mem.length → Turns σ σ' b

/-- what lasts where the rows B have grown: all but their names -/
theorem repC_move {σ σ' : Sit} (stab : ∀ r, σ.S r → σ'.S r) (heap : ∀ r, σ.S r → σ'.w.heap[r]? = σ.w.heap[r]?) (len : σ.mem.length ≤ σ'.mem.length) (B : Nat → Prop)
    (turns : ∀ b, b < σ.mem.length → Turns σ σ' b ∨ (B b ∧ ∃ τ xs τ' xs', blkAt σ.mem b = .acc τ xs ∧ blkAt σ'.mem b = .acc τ' xs')) {c : SC} {y : Value} (hc : RepC σ c y) (hB : ∀ b, c = .own b → ¬ B b) : RepC σ' c y := by
  cases c with
  | undef => exact hc
  | v x => exact hc
  | fl k o => exact hc
  | sl τ xs => exact DRep.mono stab heap hc
  | own b =>
    obtain ⟨hb, hs, hm⟩ := hc
    refine ⟨Nat.lt_of_lt_of_le hb len, hs, ?_⟩
    have ht := (turns b hb).resolve_right fun h => hB b rfl h.1
    unfold Turns at ht
    split at hm
    · rename_i τ xs e
      rw [e] at ht
      obtain ⟨r, hr, rfl⟩ := hm
      rcases ht with ⟨h1, xs', h2, h3⟩ | ⟨xs', h1, h2⟩
      · rw [h2]; exact ⟨r, h1.trans hr, by rw [h3]⟩
      · rw [h1]; exact h2 r hr
    · rename_i τ xs e
      rw [e] at ht
      subst hm
      rcases ht with ⟨h1, h2, h3⟩ | ⟨h1, h2⟩
      · rw [h3]; simp only [h1, h2]
      · rw [h1]; exact h2
    · rename_i τ xs e
      rw [e] at ht
      simp only at ht
      rw [ht]
      exact DRep.mono stab heap hm
    · rename_i e1 e2 e3
      cases e : blkAt σ.mem b with
      | gone => rw [e] at ht; simp only at ht; rw [ht]; trivial
      | raw cs => rw [e] at ht; simp only at ht; obtain ⟨_, cs', h2⟩ := ht; rw [h2]; trivial
      | arr τ xs => exact absurd e (e1 τ xs)
      | acc τ xs => exact absurd e (e2 τ xs)
      | froz τ xs => exact absurd e (e3 τ xs)
  | ptr b off =>
    obtain ⟨hb, hs, hm⟩ := hc
    refine ⟨Nat.lt_of_lt_of_le hb len, hs, ?_⟩
    rcases turns b hb with ht | ⟨_, _, _, _, _, _, e2⟩
    case inr => rw [e2]; trivial
    unfold Turns at ht
    cases e : blkAt σ.mem b with
    | gone => rw [e] at ht; simp only at ht; rw [ht]; trivial
    | raw cs => rw [e] at ht hm; simp only at ht hm; obtain ⟨h1, cs', h2⟩ := ht; rw [h2]; obtain ⟨r, hr, e⟩ := hm; exact ⟨r, h1.trans hr, e⟩
    | arr τ xs =>
      rw [e] at ht hm; simp only at ht hm
      rcases ht with ⟨h1, xs', h2, h3⟩ | ⟨_, h1, h2⟩
      · rw [h2]; obtain ⟨r, hr, e⟩ := hm; exact ⟨r, h1.trans hr, e⟩
      · rw [h1]; trivial
    | acc τ xs =>
      rw [e] at ht hm; simp only at ht hm
      rcases ht with ⟨h1, h2, h3⟩ | ⟨h1, h2⟩
      · rw [h3]; trivial
      · rw [h1]; trivial
    | froz τ xs => rw [e] at ht; simp only at ht; rw [ht]; trivial
  | eptr b i off =>
    obtain ⟨hb, hs, hm⟩ := hc
    refine ⟨Nat.lt_of_lt_of_le hb len, hs, ?_⟩
    rcases turns b hb with ht | ⟨_, _, _, _, _, _, e2⟩
    case inr => rw [e2]; trivial
    unfold Turns at ht
    cases e : blkAt σ.mem b with
    | gone => rw [e] at ht; simp only at ht; rw [ht]; trivial
    | raw cs => rw [e] at ht; simp only at ht; obtain ⟨_, cs', h2⟩ := ht; rw [h2]; trivial
    | arr τ xs =>
      rw [e] at ht hm; simp only at ht hm
      rcases ht with ⟨h1, xs', h2, h3⟩ | ⟨_, h1, h2⟩
      · rw [h2]; obtain ⟨hi, r, hr, e⟩ := hm; exact ⟨by omega, r, h1.trans hr, e⟩
      · rw [h1]; trivial
    | acc τ xs =>
      rw [e] at ht; simp only at ht
      rcases ht with ⟨h1, h2, h3⟩ | ⟨h1, h2⟩
      · rw [h3]; trivial
      · rw [h1]; trivial
    | froz τ xs => rw [e] at ht; simp only at ht; rw [ht]; trivial
  | iptr τ x off =>
    obtain ⟨r, o, vs, T, fz, ds, e, hS, hh, hd, hj⟩ := hc
    exact ⟨r, o, vs, T, fz, ds, e, stab r hS, (heap r hS).trans hh, hd.mono stab heap, hj⟩
  | gptr g => exact hc
  | fnv o => exact hc
  | fn f caps =>
    obtain ⟨hb, hs, hm⟩ := hc
    refine ⟨fun p hp => Nat.lt_of_lt_of_le (hb p hp) len, hs, ?_⟩
    by_cases hall : ∀ p ∈ caps, ∃ cs, blkAt σ.mem p.1 = .raw cs
    · rcases hm with ⟨p, hp, hq⟩ | ⟨rs, h1, h2⟩
      · obtain ⟨cs, e⟩ := hall p hp
        rw [e] at hq; exact hq.elim
      · refine .inr ⟨rs, ?_, h2⟩
        rw [← h1]
        refine List.map_congr_left fun p hp => ?_
        obtain ⟨cs, e⟩ := hall p hp
        have ht := (turns p.1 (hb p hp)).resolve_right fun ⟨_, _, _, _, _, e1, _⟩ => by rw [e] at e1; cases e1
        unfold Turns at ht
        rw [e] at ht
        exact ht.1
    · refine .inl ?_
      obtain ⟨p, hp⟩ := Classical.not_forall.1 hall
      obtain ⟨hp, hn⟩ := Classical.not_imp.1 hp
      refine ⟨p, hp, ?_⟩
      rcases turns p.1 (hb p hp) with ht | ⟨_, _, _, _, _, _, e2⟩
      case inr => rw [e2]; trivial
      unfold Turns at ht
      cases e : blkAt σ.mem p.1 with
      | gone => rw [e] at ht; simp only at ht; rw [ht]; trivial
      | raw cs => exact absurd ⟨cs, e⟩ hn
      | arr τ xs =>
        rw [e] at ht; simp only at ht
        rcases ht with ⟨h1, xs', h2, h3⟩ | ⟨_, h1, h2⟩
        · rw [h2]; trivial
        · rw [h1]; trivial
      | acc τ xs =>
        rw [e] at ht; simp only at ht
        rcases ht with ⟨h1, h2, h3⟩ | ⟨h1, h2⟩
        · rw [h3]; trivial
        · rw [h1]; trivial
      | froz τ xs => rw [e] at ht; simp only at ht; rw [ht]; trivial

theorem Goes.repC {σ σ' : Sit} (h : Goes σ σ') {c : SC} {y : Value} (hc : RepC σ c y) : RepC σ' c y :=
  repC_move h.stab h.heap h.len (fun _ => False) (fun b hb => .inl (h.turns b hb)) hc (fun _ _ h => h)

theorem Goes.repV {σ σ' : Sit} (h : Goes σ σ') {x : SV} {y : Value} (hc : RepV σ x y) : RepV σ' x y := by
  cases x with
  | one c => exact h.repC hc
  | agg cs => obtain ⟨ys, e, ha⟩ := hc; exact ⟨ys, e, ha.mono fun _ _ => h.repC⟩

theorem Goes.repT {σ σ' : Sit} (h : Goes σ σ') {x : TV} {y : Value} (hc : RepT σ x y) : RepT σ' x y := by
  cases x with
  | un => trivial
  | val x => exact h.repV hc
  | tup xs => obtain ⟨h1, ys, e, ha⟩ := hc; exact ⟨h1, ys, e, ha.mono fun _ _ => h.repV⟩

/-! cells of data, and data out of cells -/
theorem cellsOf_rep {σ : Sit} : ∀ {τ : Shape} {x : Den τ} {ys : List Value}, DRep σ.w σ.S τ x ys → All2 (RepC σ) (cellsOf τ x) ys
  | .int k, n, _, h => by rw [h.1]; exact .cons ⟨rfl, h.2⟩ .nil
  | .bool, b, _, h => by rw [show _ = _ from h]; exact .cons ⟨rfl, trivial⟩ .nil
  | .str, s, _, h => by rw [h.1]; exact .cons ⟨rfl, h.2⟩ .nil
  | .fn, o, _, h => by rw [show _ = _ from h]; exact .cons rfl .nil
  | .unit, _, _, h => by rw [show _ = _ from h]; exact .nil
  | .slice e, xs, _, h => by
    obtain ⟨A, c, h0, h1⟩ := h
    rw [h0]; exact .cons ⟨A, c, rfl, h1⟩ .nil
  | .pair a b, x, _, ⟨c1, c2, h0, h1, h2⟩ => by
    rw [h0]; exact (cellsOf_rep h1).append (cellsOf_rep h2)

theorem castL_rep {w : World} {S : Nat → Prop} {e' e : Shape} {xs : List (Den e')} {ys : List (Den e)} (h : castL e' e xs = some ys) {y : Value}
    (hd : DRep w S (.slice e') xs [y]) : DRep w S (.slice e) ys [y] := by
  unfold castL at h
  split at h
  · rename_i he
    subst he
    cases h
    exact hd
  · cases h

theorem castL_eq {e' e : Shape} {xs : List (Den e')} {ys : List (Den e)} (h : castL e' e xs = some ys) : ∃ he : e' = e, ys = he ▸ xs := by
  unfold castL at h
  split at h
  · rename_i he; cases h; exact ⟨he, rfl⟩
  · cases h

theorem nil_rep {w : World} {S : Nat → Prop} (τ : Shape) : DRep w S (.slice τ) [] [.slice none 0 0] :=
  ⟨none, 0, rfl, Nat.le_refl _, by unfold lim; omega, fun h => absurd rfl h⟩

theorem parse_rep {σ : Sit} : ∀ {τ : Shape} {cs : List SC} {ys : List Value} {x : Den τ} {r : List SC}, All2 (RepC σ) cs ys → parse τ cs = some (x, r) →
    ∃ y1 y2, ys = y1 ++ y2 ∧ DRep σ.w σ.S τ x y1 ∧ All2 (RepC σ) r y2
  | .int k, [], _, _, _, _, h => by simp [parse] at h
  | .int k, c :: cs, _, x, r, .cons hc ht, h => by
    simp only [parse] at h
    split at h
    · rename_i k' n
      split at h
      · rename_i hk
        cases h
        obtain ⟨rfl, h1⟩ := hc
        exact ⟨[_], _, rfl, ⟨by rw [hk], by rw [← hk]; exact h1⟩, ht⟩
      · cases h
    · cases h
  | .bool, [], _, _, _, _, h => by simp [parse] at h
  | .bool, c :: cs, _, x, r, .cons hc ht, h => by
    simp only [parse] at h
    split at h
    · cases h
      obtain ⟨rfl, h1⟩ := hc
      exact ⟨[_], _, rfl, rfl, ht⟩
    · cases h
  | .str, [], _, _, _, _, h => by simp [parse] at h
  | .str, c :: cs, _, x, r, .cons hc ht, h => by
    simp only [parse] at h
    split at h
    · cases h
      obtain ⟨rfl, h1⟩ := hc
      exact ⟨[_], _, rfl, ⟨rfl, h1⟩, ht⟩
    · cases h
  | .fn, [], _, _, _, _, h => by simp [parse] at h
  | .fn, c :: cs, _, x, r, .cons hc ht, h => by
    simp only [parse] at h
    split at h
    · cases h
      obtain ⟨rfl, h1⟩ := hc
      exact ⟨[_], _, rfl, rfl, ht⟩
    · cases h
      obtain ⟨_, _, h1⟩ := hc
      rcases h1 with ⟨p, hp, _⟩ | ⟨rs, h1, rfl⟩
      · simp at hp
      · exact ⟨[_], _, rfl, by simp [DRep], ht⟩
    · cases h
      exact ⟨[_], _, rfl, hc, ht⟩
    · cases h
  | .unit, cs, ys, x, r, ha, h => by
    simp only [parse] at h
    cases h
    exact ⟨[], ys, rfl, rfl, ha⟩
  | .slice e, [], _, _, _, _, h => by simp [parse] at h
  | .slice e, c :: cs, _, x, r, .cons hc ht, h => by
    simp only [parse] at h
    split at h
    · split at h
      · rename_i hcast
        cases h
        exact ⟨[_], _, rfl, castL_rep hcast hc, ht⟩
      · cases h
    · cases h
      obtain ⟨rfl, h1⟩ := hc
      exact ⟨[_], _, rfl, nil_rep e, ht⟩
    · cases h
  | .pair a b, cs, ys, x, r, ha, h => by
    simp only [parse] at h
    split at h
    · cases h
    · rename_i x1 r1 h1
      split at h
      · cases h
      · rename_i x2 r2 h2
        cases h
        obtain ⟨y1, y2, rfl, d1, a1⟩ := parse_rep ha h1
        obtain ⟨y3, y4, rfl, d2, a2⟩ := parse_rep a1 h2
        exact ⟨y1 ++ y3, y4, by simp, ⟨y1, y3, rfl, d1, d2⟩, a2⟩

/-- rows of data that lie in cells from place o on -/
def Rows (w : World) (S : Nat → Prop) (e : Shape) (vs : Array Value) (o : Nat) (xs : List (Den e)) : Prop :=
  ∀ i x, xs[i]? = some x → ∃ ds, DRep w S e x ds ∧ ∀ j d, ds[j]? = some d → vs[o + i * e.width + j]? = some d

theorem parseMany_rep {σ : Sit} {τ : Shape} : ∀ {n : Nat} {cs : List SC} {ys : List Value} {xs : List (Den τ)}, All2 (RepC σ) cs ys → parseMany τ n cs = some xs →
    xs.length = n ∧ ys.length = n * τ.width ∧ ∀ i x, xs[i]? = some x → ∃ ds, DRep σ.w σ.S τ x ds ∧ ∀ j d, ds[j]? = some d → ys[i * τ.width + j]? = some d
  | 0, [], _, xs, .nil, h => by simp [parseMany] at h; subst h; simp
  | 0, _ :: _, _, xs, _, h => by simp [parseMany] at h
  | n + 1, cs, ys, xs, ha, h => by
    simp only [parseMany] at h
    split at h
    · cases h
    · rename_i x r h1
      split at h
      · cases h
      · rename_i xs' h2
        cases h
        obtain ⟨y1, y2, rfl, d1, a1⟩ := parse_rep ha h1
        obtain ⟨l1, l2, l3⟩ := parseMany_rep a1 h2
        have hw := d1.len
        refine ⟨by simp [l1], by rw [List.length_append, l2, hw, Nat.succ_mul]; omega, fun i z hi => ?_⟩
        cases i with
        | zero =>
          simp at hi; subst hi
          refine ⟨y1, d1, fun j d hj => ?_⟩
          rw [Nat.zero_mul, Nat.zero_add, List.getElem?_append_left (List.getElem?_eq_some_iff.1 hj).1]
          exact hj
        | succ i =>
          obtain ⟨ds, e1, e2⟩ := l3 i z (by simpa using hi)
          refine ⟨ds, e1, fun j d hj => ?_⟩
          rw [List.getElem?_append_right (by rw [hw, Nat.succ_mul]; omega)]
          rw [show (i + 1) * τ.width + j - y1.length = i * τ.width + j by rw [hw, Nat.succ_mul]; omega]
          exact e2 j d hj

end Vx
