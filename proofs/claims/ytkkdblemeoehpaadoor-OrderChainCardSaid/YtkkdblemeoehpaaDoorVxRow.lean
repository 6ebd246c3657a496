/- Rows: from what a row says of the memory at the call to what a summary asks, and back. -/
import Derived.Test.YtkkdblemeoehpaaDoorVxLoop
import Derived.ProofKit
import Derived.LaidMore
import Derived.OpenShut
import Derived.Stop.Joined
import GoSem.ClaimJoined
namespace Vx
open Go Go.RowKit Go.ChangeShapes Go.WideShapes

/-- numbers in their ranges, lengths below 2^63 -/
def wfD : (τ : Shape) → Den τ → Prop
  | .int k, n => k.min ≤ n ∧ n ≤ k.max
  | .slice e, xs => xs.length < lim ∧ ∀ x ∈ xs, wfD e x
  | .pair a b, x => wfD a x.1 ∧ wfD b x.2
  | .bool, _ => True
  | .str, _ => True
  | .fn, _ => True
  | .unit, _ => True

theorem DRep.wfD {w : World} {S : Nat → Prop} : ∀ {τ : Shape} {x : Den τ} {cs : List Value}, DRep w S τ x cs → wfD τ x
  | .int _, _, _, h => h.2
  | .bool, _, _, _ => trivial
  | .str, _, _, _ => trivial
  | .fn, _, _, _ => trivial
  | .unit, _, _, _ => trivial
  | .slice _, xs, _, ⟨A, c, _, h1, h2, h3⟩ => by
    refine ⟨Nat.lt_of_le_of_lt h1 h2, fun x hx => ?_⟩
    obtain ⟨r, o, vs, T, fz, _, _, _, h⟩ := h3 (List.ne_nil_of_mem hx)
    obtain ⟨i, hi⟩ := List.getElem?_of_mem hx
    obtain ⟨ds, hd, _⟩ := h i x hi
    exact hd.wfD
  | .pair _ _, _, _, ⟨c1, c2, _, h1, h2⟩ => ⟨h1.wfD, h2.wfD⟩

def wfS : (sg : Sig) → DenS sg → Prop
  | [], _ => True
  | (_, τ) :: r, x => wfD τ x.1 ∧ wfS r x.2

/-- what a datum says -/
def undat {H : Type} : (τ : Shape) → (DataW H → Option (Den τ)) × (List (DataW H) → Option (Den τ))
  | .int k => (fun d => match d with | .lit (.int k' n) => if k' = k then some n else none | _ => none, fun _ => none)
  | .bool => (fun d => match d with | .lit (.bool b) => some b | _ => none, fun _ => none)
  | .unit => (fun d => match d with | .agg [] => some () | _ => none, fun l => match l with | [] => some () | _ => none)
  | .pair a b =>
    let f := fun l => match l with
      | d :: r => (match (undat a).1 d, (undat b).2 r with | some x, some y => some (x, y) | _, _ => none)
      | [] => none
    (fun d => match d with | .agg l => f l | _ => none, f)
  | .str => (fun _ => none, fun _ => none)
  | .fn => (fun _ => none, fun _ => none)
  | .slice _ => (fun _ => none, fun _ => none)

/-- a type's shape -/
def fitF (P : Program) (g : TypeId → Shape → Bool) : List Field → Nat → Shape → Bool
  | [], _, .unit => true
  | f :: fs, o, .pair a b => (f.offset == o) && (P.cellsOf f.type == a.width) && g f.type a && fitF P g fs (o + a.width) b
  | _, _, _ => false

def fitB (P : Program) : Nat → TypeId → Shape → Bool
  | 0, _, _ => false
  | n + 1, t, τ => match P.underlying t with
    | some (.int k) => (match τ with | .int k' => decide (k = k') | _ => false)
    | some .bool => (match τ with | .bool => true | _ => false)
    | some (.slice e) => (match τ with | .slice σ => (P.cellsOf e == σ.width) && decide (0 < σ.width) && fitB P n e σ | _ => false)
    | some (.struct fs) => (P.cellsOf t == τ.width) && fitF P (fitB P n) fs.toList 0 τ
    | _ => false

theorem choose_list {A : Type} {Q : Nat → A → Prop} : ∀ (n : Nat), (∀ i, i < n → ∃ x, Q i x) → ∃ xs : List A, xs.length = n ∧ ∀ i x, xs[i]? = some x → Q i x
  | 0, _ => ⟨[], rfl, fun i x h => by simp at h⟩
  | n + 1, h => by
    obtain ⟨xs, h1, h2⟩ := choose_list n fun i hi => h i (by omega)
    obtain ⟨x, hx⟩ := h n (by omega)
    refine ⟨xs ++ [x], by simp [h1], fun i y hy => ?_⟩
    rcases Nat.lt_or_ge i n with hi | hi
    · rw [List.getElem?_append_left (by omega)] at hy
      exact h2 i y hy
    · rw [List.getElem?_append_right (by omega)] at hy
      have : i = n := by
        have := (List.getElem?_eq_some_iff.1 hy).1
        simp at this; omega
      subst this
      simp [h1] at hy
      exact hy ▸ hx

theorem wf_int {k : IntKind} {n : Int} (h : (Lit.int k n).wf = true) : k.min ≤ n ∧ n ≤ k.max := by
  simpa [Lit.wf] using h

section
variable {H : Type} {enc : TypeId × Value → H} {P : Program} {W : World} {spare : Nat → Bool} {held : Bool}

theorem fitF_ok {n : Nat} {m : Nat} {cs : List Value} (ih : ∀ (t : TypeId) (τ : Shape) (cs : List Value) (d : DataW H) (p : List MemPlace), fitB P n t τ = true → DataW.trod enc P W 0 spare held m t cs = some (d, p) → ∃ x : Den τ, DRep W (fun q => q < W.heap.size) τ x cs ∧ ∀ y, (undat τ).1 d = some y → x = y) :
    ∀ (l : List Field) (o : Nat) (τ : Shape) (xs : List (DataW H × List MemPlace)), fitF P (fitB P n) l o τ = true → xs.length = l.length → cs.length = o + τ.width →
      (∀ (i : Nat) (f : Field), l[i]? = some f → DataW.trod enc P W 0 spare held m f.type ((cs.drop f.offset).take (P.cellsOf f.type)) = xs[i]?) →
      ∃ x : Den τ, DRep W (fun q => q < W.heap.size) τ x (cs.drop o) ∧ ∀ y, (undat τ).2 (xs.map (·.1)) = some y → x = y
  | [], o, τ, xs, hf, hx, hl, _ => by
    cases τ <;> simp [fitF] at hf
    refine ⟨(), ?_, fun _ _ => rfl⟩
    show cs.drop o = []
    apply List.drop_eq_nil_of_le
    simp [Shape.width] at hl
    omega
  | f :: fs, o, τ, xs, hf, hx, hl, h => by
    cases τ with
    | pair a b =>
      simp only [fitF, Bool.and_eq_true, beq_iff_eq] at hf
      obtain ⟨⟨⟨ho, hc⟩, hg⟩, hr⟩ := hf
      cases xs with
      | nil => simp at hx
      | cons x0 xs =>
        have h0 := h 0 f rfl
        rw [ho, hc] at h0
        simp only [List.getElem?_cons_zero] at h0
        obtain ⟨xa, ha, hua⟩ := ih f.type a _ x0.1 x0.2 hg h0
        simp only [Shape.width] at hl
        obtain ⟨xb, hb, hub⟩ := fitF_ok ih fs (o + a.width) b xs hr (by simpa using hx) (by rw [hl]; omega) fun i g hi => by
          have := h (i + 1) g (by simpa using hi)
          simpa using this
        refine ⟨(xa, xb), ⟨(cs.drop o).take a.width, cs.drop (o + a.width), ?_, ha, hb⟩, fun y hy => ?_⟩
        · rw [← List.drop_drop, List.take_append_drop]
        · simp only [undat, List.map_cons] at hy
          split at hy
          · rename_i e1 e2
            have := hua _ e1; have := hub _ e2
            subst_vars
            exact Option.some.inj hy
          · cases hy
    | _ => simp [fitF] at hf

theorem fit_ok : ∀ (n : Nat) (m : Nat) (t : TypeId) (τ : Shape) (cs : List Value) (d : DataW H) (p : List MemPlace), fitB P n t τ = true → DataW.trod enc P W 0 spare held m t cs = some (d, p) →
    ∃ x : Den τ, DRep W (fun q => q < W.heap.size) τ x cs ∧ ∀ y, (undat τ).1 d = some y → x = y
  | 0, _, _, _, _, _, _, h, _ => by simp [fitB] at h
  | n + 1, m, t, τ, cs, d, p, h, ht => by
    unfold fitB at h
    split at h
    · rename_i k hk
      cases τ with
      | int k' =>
        simp only [decide_eq_true_eq] at h
        subst h
        obtain ⟨v, hv, hx, hw⟩ := DataW.trod_int hk ht
        simp only [Prod.mk.injEq] at hx
        refine ⟨v, ⟨hv, wf_int hw⟩, fun y hy => ?_⟩
        rw [hx.1] at hy
        simp only [undat, if_true] at hy
        exact Option.some.inj hy
      | _ => cases h
    · rename_i hk
      cases τ with
      | bool =>
        obtain ⟨v, hv, hx⟩ := DataW.trod_bool hk ht
        simp only [Prod.mk.injEq] at hx
        refine ⟨v, hv, fun y hy => ?_⟩
        rw [hx.1] at hy
        simp only [undat] at hy
        exact Option.some.inj hy
      | _ => cases h
    · rename_i e hk
      cases τ with
      | slice σ =>
        simp only [Bool.and_eq_true, beq_iff_eq, decide_eq_true_eq] at h
        obtain ⟨⟨hc, hpos⟩, hf⟩ := h
        rcases DataW.trod_slice hk ht with ⟨hcs, hx⟩ | ⟨a, len, cap, elems, rest, m', rfl, hcs, hx, hb, hlc, hcap, hlen, hel, _⟩
        · exact ⟨[], ⟨none, 0, hcs, Nat.le_refl _, by decide, fun h => absurd rfl h⟩, fun y hy => by simp [undat] at hy⟩
        · have each : ∀ i, i < len → ∃ x : Den σ, ∃ ds, W.cells? 0 (a.add (i * P.cellsOf e)) (P.cellsOf e) = some ds ∧ DRep W (fun q => q < W.heap.size) σ x ds := fun i hi => by
            have := hel i hi
            rw [List.getElem?_eq_getElem (by omega), Option.bind_eq_some_iff] at this
            obtain ⟨ds, h1, h2⟩ := this
            obtain ⟨x, hx, _⟩ := fit_ok n m' e σ ds (elems[i]'(by omega)).1 (elems[i]'(by omega)).2 hf h2
            exact ⟨x, ds, h1, hx⟩
          obtain ⟨xs, hxl, hxs⟩ := choose_list len each
          refine ⟨xs, ⟨some a, cap, by rw [hxl]; exact hcs, by omega, by unfold lim; unfold maxLen at hcap; omega, fun hne => ?_⟩, fun y hy => by simp [undat] at hy⟩
          have h0 : 0 < xs.length := List.length_pos_iff.2 hne
          obtain ⟨ds0, hd0, _⟩ := hxs 0 xs[0] (List.getElem?_eq_getElem h0)
          obtain ⟨_, hl0, hc0⟩ := World.cells?_some hd0
          have hz : a.add (0 * P.cellsOf e) = a := by simp [Addr.add]
          have hz' : a.add 0 = a := by simp [Addr.add]
          rw [hz] at hc0
          have hc00 := hc0 0 (by omega)
          rw [hz', List.getElem?_eq_getElem (by omega)] at hc00
          unfold World.cell? at hc00
          split at hc00
          · rename_i c T fz hheap
            split at hc00
            · cases hc00
            · rename_i hspot
              have hs : a.spot = none := by simpa using hspot
              have hadd : ∀ q, a.add q = ⟨a.block, a.off + q, none⟩ := fun q => by
                unfold Addr.add
                split
                · subst_vars; cases a; simp at hs; simp [hs]
                · rfl
              have ha : a = ⟨a.block, a.off, none⟩ := by cases a; simp at hs; simp [hs]
              refine ⟨a.block, a.off, c, T, fz, by rw [← ha], ?_, hheap, fun i x hi => ?_⟩
              · exact (Array.getElem?_eq_some_iff.1 hheap).1
              · obtain ⟨ds, hd, hr⟩ := hxs i x hi
                refine ⟨ds, hr, fun j v hj => ?_⟩
                obtain ⟨_, hl, hcj⟩ := World.cells?_some hd
                have hjl : j < P.cellsOf e := by rw [← hl]; exact (List.getElem?_eq_some_iff.1 hj).1
                have := hcj j hjl
                rw [hadd, hj] at this
                have hadd2 : (⟨a.block, a.off + i * P.cellsOf e, none⟩ : Addr).add j = ⟨a.block, a.off + i * P.cellsOf e + j, none⟩ := by
                  unfold Addr.add
                  split
                  · subst_vars; rfl
                  · rfl
                rw [hadd2] at this
                unfold World.cell? at this
                simp only [hheap] at this
                rw [hc] at this
                exact this
          · cases hc00
      | _ => cases h
    · rename_i fs hk
      simp only [Bool.and_eq_true, beq_iff_eq] at h
      obtain ⟨hc, hf⟩ := h
      obtain ⟨xs, m', rfl, hx, hl, hxl, hel⟩ := DataW.trod_struct hk ht
      simp only [Prod.mk.injEq] at hx
      obtain ⟨x, h1, h2⟩ := fitF_ok (fun t τ cs d p => fit_ok n m' t τ cs d p) fs.toList 0 τ xs hf (by simpa using hxl) (by rw [hl, hc]; omega) fun i f hi => hel i f (by simpa using hi)
      refine ⟨x, by simpa using h1, fun y hy => h2 y ?_⟩
      rw [hx.1] at hy
      cases τ with
      | pair a b => exact hy
      | unit =>
        simp only [undat] at hy ⊢
        split at hy
        · rename_i e; simp only [DataW.agg.injEq] at e; rw [e]
        · cases hy
      | _ => simp [undat] at hy
    · cases h

end

end Vx
