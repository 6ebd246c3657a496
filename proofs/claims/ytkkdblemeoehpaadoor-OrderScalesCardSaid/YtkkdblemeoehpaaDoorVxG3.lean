/- Part 3 of the proof. What is proved: symbolic execution of the functions, proved sound; what each function of the program computes, and that every run ends with it; what these functions compute, in plain numbers. Conditions: each theorem bears its own. -/
import Derived.Test.YtkkdblemeoehpaaDoorVxG2
import Derived.Laws.Sem
import Derived.Test.YtkkdblemeoehpaaDoorProg
import Derived.IntWalk
import Derived.Laws.Externs
set_option linter.all false
set_option exponentiation.threshold 1000000
namespace Vx
open Go Go.RowKit
variable {C : Cfg} {base : Base} {S0 : Nat → Prop} {s0 : St} {S : Nat → St} {xs : Nat → TV} {fs : Nat → FP}
theorem headLen_le : ∀ (l : List Oper), headLen l ≤ l.length
  | [] => Nat.le_refl _
  | o :: r => by
    simp only [headLen]
    cases Nat.blt (memKind o.op) 3 with
    | true => simp only [cond_true, List.length_cons]; have := headLen_le r; omega
    | false => simp
theorem allIn_spec {l : List Nat} : ∀ {n : Nat}, allIn l n = true → ∀ j, j < n → j ∈ l
  | 0, _, j, h => by omega
  | n + 1, h, j, hj => by
    simp only [allIn, Bool.and_eq_true] at h
    rcases Nat.lt_or_ge j n with h1 | h1
    · exact allIn_spec h.2 j h1
    · have : j = n := by omega
      subst this
      exact memB_iff.1 h.1
theorem tailRest_spec : ∀ {l : List Oper} {i : Nat}, tailRest i l = true → ∀ k o, l[k]? = some o → o.guard = none ∧ i + k ∈ preds o ∧ ∀ p ∈ preds o, p < i + k + 1
  | [], i, _, k, o, h => by simp at h
  | x :: r, i, h, k, o, hk => by
    simp only [tailRest, Bool.and_eq_true] at h
    cases k with
    | zero =>
      simp at hk; subst hk
      refine ⟨?_, memB_iff.1 h.1.1.2, allLt_iff h.1.2⟩
      have := h.1.1.1
      unfold noGuard at this
      split at this
      · assumption
      · cases this
    | succ k =>
      have := tailRest_spec h.2 k o (by simpa using hk)
      exact ⟨this.1, by rw [show i + (k + 1) = i + 1 + k by omega]; exact this.2.1, by rw [show i + (k + 1) + 1 = i + 1 + k + 1 by omega]; exact this.2.2⟩
/-- what is listed is a beginning, and what comes is a row: each in its turn -/
theorem tail_any {opsA : Array Oper} {Q : Exit → Act → World → Prop} {n : Nat} (hrest : ∀ i o, n < i → opsA[i]? = some o → i - 1 ∈ preds o) (hbefore : ∀ i o, n ≤ i → opsA[i]? = some o → ∀ p ∈ preds o, p < i) :
    ∀ (fuel k : Nat) (listed : Array Bool) (a : Act) (w : World), n ≤ k → listed.size = opsA.size → (∀ i, listed.getD i false = true ↔ i < k) → k ≤ opsA.size → opsA.size - k ≤ fuel →
      wpList C.P opsA Q (opsA.toList.drop k) a w → wpAny C.P .any opsA Q fuel listed a w := by
  intro fuel
  have hready : ∀ (k : Nat) (listed : Array Bool), n ≤ k → listed.size = opsA.size → (∀ i, listed.getD i false = true ↔ i < k) → ∀ i ∈ Region.ready .any opsA listed, i = k := fun k listed hnk hs hl i hi => by
    obtain ⟨h1, o, ho, hall⟩ := mem_ready.1 hi
    have hil : i < opsA.size := (Array.getElem?_eq_some_iff.1 ho).1
    have hil' : i < listed.size := by omega
    have hni : ¬ i < k := fun h => by
      have := (hl i).2 h
      simp [Array.getD, hil'] at h1 this
      rw [this] at h1; cases h1
    rcases Nat.lt_or_ge k i with hki | hki
    · exfalso
      have := hrest i o (by omega) ho
      obtain ⟨e, he, hb, hon⟩ := mem_preds.1 this
      have := (hl e.on).1 (hall e he hb)
      omega
    · omega
  induction fuel with
  | zero =>
    intro k listed a w hnk hs hl hk hf hw
    have hke : k = opsA.size := by omega
    subst hke
    have hdrop : opsA.toList.drop opsA.size = [] := by simp
    rw [hdrop] at hw
    refine ⟨?_, hw⟩
    cases hr : Region.ready .any opsA listed with
    | nil => rfl
    | cons i r =>
      exfalso
      have hi : i ∈ Region.ready .any opsA listed := by rw [hr]; simp
      have := hready _ listed hnk hs hl i hi
      obtain ⟨_, o, ho, _⟩ := mem_ready.1 hi
      have := (Array.getElem?_eq_some_iff.1 ho).1
      omega
  | succ fuel ih =>
    intro k listed a w hnk hs hl hk hf hw
    rcases Nat.lt_or_ge k opsA.size with hlt | hge
    · have hget : opsA[k]? = some opsA[k] := by simp [hlt]
      have hdrop : opsA.toList.drop k = opsA[k] :: opsA.toList.drop (k + 1) := by
        rw [List.drop_eq_getElem_cons (by simpa using hlt)]; simp
      rw [hdrop] at hw
      refine ⟨fun hnil => ?_, fun i hi => ?_⟩
      · exfalso
        have : k ∈ Region.ready .any opsA listed := by
          rw [mem_ready]
          have hil : k < listed.size := by omega
          refine ⟨?_, opsA[k], hget, fun e he hbd => ?_⟩
          · have h0 : ¬ listed.getD k false = true := fun h => absurd ((hl k).1 h) (Nat.lt_irrefl _)
            simpa [Array.getD, hil] using h0
          · exact (hl e.on).2 (hbefore k opsA[k] hnk hget e.on (mem_preds.2 ⟨e, he, hbd, rfl⟩))
        rw [hnil] at this; simp at this
      · have := hready k listed hnk hs hl i hi
        subst this
        have hil' : i < listed.size := by omega
        have hset : ∀ j, (listed.setIfInBounds i true).getD j false = true ↔ j < i + 1 := fun j => by
          by_cases hj : j = i
          · subst hj; simp [Array.getD, hil']
          · rw [Array.getD_eq_getD_getElem?, Array.getElem?_setIfInBounds_ne (fun e => hj e.symm), ← Array.getD_eq_getD_getElem?, hl j]
            omega
        simp only [wpList] at hw
        unfold wpOp
        rw [hget]
        simp only
        split
        · rename_i hwant
          rw [if_pos hwant] at hw
          rcases hw with hw | hw
          · exact .inl (Oper.wp_mono (fun a' w' h => ih (i + 1) _ a' w' (by omega) (by simpa using hs) hset hlt (by omega) h) hw)
          · exact .inr hw
        · rename_i hwant
          rw [if_neg hwant] at hw
          exact ih (i + 1) _ _ w (by omega) (by simpa using hs) hset hlt (by omega) hw
    · have hke : k = opsA.size := by omega
      subst hke
      have hdrop : opsA.toList.drop opsA.size = [] := by simp
      rw [hdrop] at hw
      refine ⟨fun _ => hw, fun i hi => ?_⟩
      exfalso
      have := hready _ listed hnk hs hl i hi
      obtain ⟨_, o, ho, _⟩ := mem_ready.1 hi
      have := (Array.getElem?_eq_some_iff.1 ho).1
      omega
/-- the draw of the head, then the tail -/
theorem draw_head (hC : SumsOk C) {opsA : Array Oper} {n : Nat} (hn : n ≤ opsA.size) (hR : Reg C (opsA.toList.take n) s0 S xs fs) (hT : tailOk (opsA.toList.take n) n (opsA.toList.drop n) = true) {σ0 : Sit} (hG0 : GlobsOk C.globs σ0.w σ0.S) {Q : Exit → Act → World → Prop}
    (hQ : ∀ σ' a', Ok base S0 σ' → Adv σ0 σ' → RelT σ' (S n) a' → wpList C.P opsA Q (opsA.toList.drop n) a' σ'.w) :
    ∀ (fuel : Nat) (listed : Array Bool) (σ : Sit) (a : Act), listed.size = opsA.size → (List.range opsA.size).countP (fun i => !listed.getD i false) ≤ fuel → (∀ i, n ≤ i → listed.getD i false = false) →
      Inv C (opsA.toList.take n) s0 S xs fs base S0 σ0 (fun i => listed.getD i false = true) σ a → wpAny C.P .any opsA Q fuel listed a σ.w := by
  have hlen : (opsA.toList.take n).length = n := by simp; omega
  have hH : ∀ i, i < n → (opsA.toList.take n)[i]? = opsA[i]? := fun i hi => by rw [List.getElem?_take_of_lt hi]; simp
  have htail : ∀ i o, n ≤ i → opsA[i]? = some o → (n < i → i - 1 ∈ preds o) ∧ (∀ p ∈ preds o, p < i) ∧ (i = n → ∀ j, j < n → j ∈ (preds o).flatMap fun i => i :: anc (opsA.toList.take n) i) := fun i o hi ho => by
    have hdrop : (opsA.toList.drop n)[i - n]? = some o := by
      rw [List.getElem?_drop, show n + (i - n) = i by omega]; simpa using ho
    cases hd : opsA.toList.drop n with
    | nil => rw [hd] at hdrop; simp at hdrop
    | cons x r =>
      rw [hd] at hdrop hT
      simp only [tailOk, Bool.and_eq_true] at hT
      obtain ⟨⟨⟨t1, t2⟩, t3⟩, t4⟩ := hT
      rcases Nat.eq_or_lt_of_le hi with heq | hgt
      · subst heq
        rw [Nat.sub_self] at hdrop
        simp at hdrop
        subst hdrop
        exact ⟨fun h => absurd h (Nat.lt_irrefl _), allLt_iff t3, fun _ j hj => allIn_spec t2 j hj⟩
      · obtain ⟨k, rfl⟩ : ∃ k, i = n + 1 + k := ⟨i - n - 1, by omega⟩
        rw [show n + 1 + k - n = k + 1 by omega] at hdrop
        have := tailRest_spec t4 k o (by simpa using hdrop)
        refine ⟨fun _ => by rw [show n + 1 + k - 1 = n + k by omega]; exact this.2.1, fun p hp => ?_, fun h => by omega⟩
        have := this.2.2 p hp
        omega
  have hdone : ∀ (fuel : Nat) (listed : Array Bool) (σ : Sit) (a : Act), listed.size = opsA.size → (List.range opsA.size).countP (fun i => !listed.getD i false) ≤ fuel → (∀ i, n ≤ i → listed.getD i false = false) → (∀ i, i < n → listed.getD i false = true) →
      Inv C (opsA.toList.take n) s0 S xs fs base S0 σ0 (fun i => listed.getD i false = true) σ a → wpAny C.P .any opsA Q fuel listed a σ.w := fun fuel listed σ a hs hc hno hall hI => by
    have hl : ∀ i, listed.getD i false = true ↔ i < n := fun i => by
      rcases Nat.lt_or_ge i n with h | h
      · exact ⟨fun _ => h, fun _ => hall i h⟩
      · exact ⟨fun h' => (by rw [hno i h] at h'; cases h'), fun h' => by omega⟩
    have hrel := hI.done hR (fun i hi => hall i (by rw [hlen] at hi; exact hi))
    rw [hlen] at hrel
    refine tail_any (n := n) (fun i o hi ho => (htail i o (by omega) ho).1 hi) (fun i o hi ho => (htail i o hi ho).2.1) fuel n listed a σ.w (Nat.le_refl _) hs hl hn ?_ (hQ σ a hI.ok hI.adv hrel)
    refine Nat.le_trans ?_ hc
    have : (List.range opsA.size).countP (fun i => !listed.getD i false) = (List.range opsA.size).countP (fun i => decide (n ≤ i)) := by
      refine List.countP_congr fun i _ => ?_
      rcases Nat.lt_or_ge i n with h | h
      · rw [hall i h]; simp; omega
      · rw [hno i h]; simp; omega
    rw [this]
    have key : ∀ m, m - n ≤ (List.range m).countP (fun i => decide (n ≤ i)) := fun m => by
      induction m with
      | zero => simp
      | succ m ih =>
        rw [List.range_succ, List.countP_append]
        simp only [List.countP_cons, List.countP_nil, decide_eq_true_eq]
        split <;> omega
    exact key _
  intro fuel
  induction fuel with
  | zero =>
    intro listed σ a hs hc hno hI
    refine hdone 0 listed σ a hs hc hno (fun i hi => ?_) hI
    have h0 : (List.range opsA.size).countP (fun i => !listed.getD i false) = 0 := by omega
    rw [List.countP_eq_zero] at h0
    have := h0 i (List.mem_range.2 (by omega))
    simpa using this
  | succ fuel ih =>
    intro listed σ a hs hc hno hI
    by_cases hall : ∀ i, i < n → listed.getD i false = true
    · exact hdone (fuel + 1) listed σ a hs hc hno hall hI
    · have hex : ∃ j, j < n ∧ listed.getD j false = false ∧ ∀ k, k < j → listed.getD k false = true := by
        obtain ⟨j, hj⟩ := Classical.not_forall.1 hall
        obtain ⟨hj1, hj2⟩ := Classical.not_imp.1 hj
        have hj2 : listed.getD j false = false := by simpa using hj2
        have : ∀ m, ∀ j, j ≤ m → j < n → listed.getD j false = false → ∃ j, j < n ∧ listed.getD j false = false ∧ ∀ k, k < j → listed.getD k false = true := fun m => by
          induction m with
          | zero => intro j hj h1 h2; exact ⟨j, h1, h2, fun k hk => by omega⟩
          | succ m ihm =>
            intro j hj h1 h2
            by_cases hk : ∀ k, k < j → listed.getD k false = true
            · exact ⟨j, h1, h2, hk⟩
            · obtain ⟨k, hk⟩ := Classical.not_forall.1 hk
              obtain ⟨hk1, hk2⟩ := Classical.not_imp.1 hk
              exact ihm k (by omega) (by omega) (by simpa using hk2)
        exact this j j (Nat.le_refl _) hj1 hj2
      refine ⟨fun hnil => ?_, fun i hi => ?_⟩
      · exfalso
        obtain ⟨j, h1, h2, h3⟩ := hex
        have : j ∈ Region.ready .any opsA listed := by
          rw [mem_ready]
          have hil : j < listed.size := by omega
          refine ⟨by simpa [Array.getD, hil] using h2, opsA[j], by simp [show j < opsA.size by omega], fun e he hbd => ?_⟩
          have hlt := (hR.row (j := j) (y := opsA[j]) (by rw [hH j h1]; simp [show j < opsA.size by omega])).1 e.on (mem_preds.2 ⟨e, he, hbd, rfl⟩)
          exact h3 e.on hlt
        rw [hnil] at this; simp at this
      · obtain ⟨h1, o, ho, hpre⟩ := mem_ready.1 hi
        have hil : i < opsA.size := (Array.getElem?_eq_some_iff.1 ho).1
        have hil' : i < listed.size := by omega
        have h1' : listed.getD i false = false := by simpa [Array.getD, hil'] using h1
        have hin : i < n := by
          rcases Nat.lt_or_ge i n with h | h
          · exact h
          · exfalso
            obtain ⟨t1, t2, t3⟩ := htail i o h ho
            rcases Nat.eq_or_lt_of_le h with heq | hgt
            · subst heq
              obtain ⟨j, g1, g2, _⟩ := hex
              obtain ⟨q, hq, hqj⟩ := List.mem_flatMap.1 (t3 rfl j g1)
              have hql : listed.getD q false = true := by
                obtain ⟨e, he, hb, rfl⟩ := mem_preds.1 hq
                exact hpre e he hb
              rcases List.mem_cons.1 hqj with rfl | hqj
              · rw [g2] at hql; cases hql
              · have := hI.closed q hql j hqj
                rw [g2] at this; cases this
            · obtain ⟨e, he, hb, hon⟩ := mem_preds.1 (t1 hgt)
              have := hpre e he hb
              rw [hon, hno (i - 1) (by omega)] at this
              cases this
        have hset : ∀ k, (listed.setIfInBounds i true).getD k false = true ↔ (k = i ∨ listed.getD k false = true) := fun k => by
          by_cases hk : k = i
          · subst hk; simp [Array.getD, hil']
          · rw [Array.getD_eq_getD_getElem?, Array.getElem?_setIfInBounds_ne (fun e => hk e.symm), ← Array.getD_eq_getD_getElem?]
            simp [hk]
        have hstep := draw_op (opsA := (opsA.toList.take n).toArray) (K := wpAny C.P .any opsA Q fuel (listed.setIfInBounds i true)) (Q := Q) hC hR hG0 hI (j := i) (o := o) ((hH i hin).trans ho)
          (fun k hk => by obtain ⟨e, he, hb, rfl⟩ := mem_preds.1 hk; exact hpre e he hb) (by simp [h1'])
          (fun σ' a' hI' => ih _ σ' a' (by simpa using hs) ?_ ?_ ?_)
        · have hw : Region.wanted o (yielded (opsA.toList.take n).toArray a.tmps) = Region.wanted o (yielded opsA a.tmps) := by
            unfold Region.wanted
            cases hg : o.guard with
            | none => rfl
            | some gp =>
              obtain ⟨gi, p⟩ := gp
              have hgi := (hR.row (j := i) (y := o) (by rw [hH i hin]; exact ho)).2.2.2.2 gi p hg
              simp only
              unfold yielded
              have : ((opsA.toList.take n).toArray[gi]?) = opsA[gi]? := by
                rw [List.getElem?_toArray]; exact hH gi (by omega)
              rw [this]
          rw [hw] at hstep
          unfold wpOp
          rw [ho]
          simp only
          split
          · rename_i hwant; rw [if_pos hwant] at hstep; exact .inl hstep
          · rename_i hwant; rw [if_neg hwant] at hstep; exact hstep
        · have := countP_lt (p := fun i => !listed.getD i false) (q := fun k => !(listed.setIfInBounds i true).getD k false) (j := i) (fun k hk => by
            simp only [Bool.not_eq_true'] at hk ⊢
            cases hb : listed.getD k false with
            | false => rfl
            | true => rw [(hset k).2 (.inr hb)] at hk; cases hk) (by simp [h1']) (by simp only [Bool.not_eq_false']; exact (hset i).2 (.inl rfl)) (List.range opsA.size) (List.mem_range.2 hil)
          omega
        · intro k hk
          cases hb : (listed.setIfInBounds i true).getD k false with
          | false => rfl
          | true =>
            rcases (hset k).1 hb with rfl | h
            · omega
            · rw [hno k hk] at h; cases h
        · have : (fun k => (listed.setIfInBounds i true).getD k false = true) = (fun k => k = i ∨ listed.getD k false = true) := funext fun k => propext (hset k)
          rw [this]
          exact hI'
/-- a region whose order is drawn, with its tail -/
theorem draw_ok6 (hP : ProgOk C) {opsA : Array Oper} {n : Nat} (hn : n ≤ opsA.size) {fps : List FP} {gs : List Bool} {s s' : St} (hd : okDraw (opsA.toList.take n) fps = true) (hT : tailOk (opsA.toList.take n) n (opsA.toList.drop n) = true) (he : drawRun C (opsA.toList.take n) (opsA.toList.take n) s = some (fps, gs, s')) (hgs : ∀ g ∈ gs, g = true) (hcs : s.cs = [])
    {σ : Sit} {a : Act} (ho : Ok base S0 σ) (hr : RelT σ s a) (hG : GlobsOk C.globs σ.w σ.S) {id : Nat} {Q : Exit → Act → World → Prop}
    (hQ : ∀ σ' a', Ok base S0 σ' → Adv σ σ' → RelT σ' s' a' → s'.m0 = s.m0 → wpList C.P opsA Q (opsA.toList.drop n) a' σ'.w) : (Code.region id opsA true).wp C.P Q a σ.w := by
  have hlen : (opsA.toList.take n).length = n := by simp; omega
  obtain ⟨S, xs, fs, h0, h1, h2, h3⟩ := trace_from _ _ _ _ _ he hgs
  have hR : Reg C (opsA.toList.take n) s S xs fs := ⟨⟨fps, hd, h0⟩, ⟨h1, h3⟩, hcs⟩
  rw [hlen] at h2
  obtain ⟨k1, k2⟩ := ok_drew (n := σ.w.drawn + 1) ho
  refine wp_region_any hP.mixed ?_
  have hstart := Inv.start hR k1 (show RelT _ s a from ⟨hr.size, hr.defers, hr.mem, fun t => RepT.keep k2.moves.rep (hr.tm t), fun d g p x hm => ⟨fun h => RepT.keep k2.moves.rep ((hr.cs d g p x hm).1 h), (hr.cs d g p x hm).2⟩⟩)
  have hm0 : s'.m0 = s.m0 := by
    rw [← h2]; exact (hR.parts _ (by rw [hlen]; exact Nat.le_refl _)).2
  refine draw_head hP.sums hn hR hT (σ0 := { σ with w := { σ.w with drawn := σ.w.drawn + 1 } }) (hG.adv k2.adv) (fun σ' a' q1 q2 q3 => hQ σ' a' q1 (k2.adv.trans q2) (by rw [← h2]; exact q3) hm0) opsA.size (Array.replicate opsA.size false) { σ with w := { σ.w with drawn := σ.w.drawn + 1 } } a (by simp) ?_ (fun i _ => by simp [Array.getD]) ?_
  · refine Nat.le_trans (List.countP_le_length) ?_
    simp
  · have : (fun i => (Array.replicate opsA.size false).getD i false = true) = fun _ => False := funext fun i => by
      simp [Array.getD]
    rw [this]
    exact hstart
end Vx
namespace Vx
open Go Go.RowKit
/-- a block as it was, or forgotten, or its cells known less well -/
def RelB (e e' : Blk) : Prop :=
  match e' with
  | .gone => True
  | .raw _ => ∃ cs, e = .raw cs
  | .arr τ xs => e = .arr τ xs
  | .acc τ xs => e = .acc τ xs
  | .froz τ xs => e = .froz τ xs
structure Cut (σ σ' : Sit) : Prop where
  E : σ'.E = σ.E
  w : σ'.w = σ.w
  S : σ'.S = σ.S
  rel : ∀ b, RelB (blkAt σ.mem b) (blkAt σ'.mem b)
variable {σ σ' : Sit}
theorem cast_same {τ' τ : Shape} {xs : List (Den τ')} {ys : List (Den τ)} (h : castL τ' τ xs = some ys) : (⟨τ', xs⟩ : Sigma fun τ => List (Den τ)) = ⟨τ, ys⟩ := by
  obtain ⟨rfl, rfl⟩ := castL_eq h; rfl
theorem readC_ok (hc : Cut σ σ') : ∀ {c : PC} {z : SC} {d : c.D} {y : Value}, readC σ.mem σ'.mem.length c z = some d → RepC σ z y → RepC σ' (buildC c d) y
  | .v k, z, d, y, h, hz => by
    simp only [readC] at h
    split at h
    · split at h
      · rename_i k' n hk; subst hk; cases h; exact hz
      · cases h
    · cases h
  | .bool, z, d, y, h, hz => by
    simp only [readC] at h
    split at h
    · cases h; exact hz
    · cases h
  | .str, z, d, y, h, hz => by
    simp only [readC] at h
    split at h
    · cases h; exact hz
    · cases h
  | .fnv, z, d, y, h, hz => by
    simp only [readC] at h
    split at h
    · cases h
      obtain ⟨rfl, _⟩ := hz
      exact (rfl : [Value.nilFunc] = _)
    · cases h
      obtain ⟨_, _, h1⟩ := hz
      rcases h1 with ⟨p, hp, _⟩ | ⟨rs, h1, rfl⟩
      · simp at hp
      · simp [buildC, RepC, DRep]
    · cases h; exact hz
    · cases h
  | .sl τ, z, d, y, h, hz => by
    have key : ∀ {τ' : Shape} {xs : List (Den τ')}, castL τ' τ xs = some d → DRep σ.w σ.S (.slice τ') xs [y] → DRep σ'.w σ'.S (.slice τ) d [y] := fun hcast hd => by
      have := castL_rep hcast hd
      rw [hc.w, hc.S]; exact this
    simp only [readC] at h
    split at h
    · exact key h hz
    · cases h
      obtain ⟨rfl, _⟩ := hz
      exact nil_rep τ
    · split at h
      · rename_i b' τ' xs e
        obtain ⟨_, _, hz⟩ := hz
        rw [e] at hz
        exact key h hz
      · cases h
    · cases h
  | .fl k, z, d, y, h, hz => by
    simp only [readC] at h
    split at h
    · split at h
      · rename_i k' o hk; subst hk; cases h; exact hz
      · cases h
    · cases h
  | .own b, z, d, y, h, hz => by
    simp only [readC] at h
    split at h
    · rename_i b'
      obtain ⟨hb, _⟩ := cond_some h
      simp only [Bool.and_eq_true] at hb
      have : b' = b := Nat.eq_of_beq_eq_true hb.1
      subst this
      obtain ⟨h1, h2, h3⟩ := hz
      refine ⟨by simpa using hb.2, h2, ?_⟩
      have hr := hc.rel b'
      unfold RelB at hr
      cases e : blkAt σ'.mem b' with
      | gone => trivial
      | raw cs => trivial
      | arr τ xs => rw [e] at hr; rw [hr] at h3; simp only at h3 ⊢; rw [hc.E]; exact h3
      | acc τ xs => rw [e] at hr; rw [hr] at h3; simp only at h3 ⊢; rw [hc.E]; exact h3
      | froz τ xs => rw [e] at hr; rw [hr] at h3; simp only at h3 ⊢; rw [hc.w, hc.S]; exact h3
    · cases h
  | .ptr b off, z, d, y, h, hz => by
    simp only [readC] at h
    split at h
    · rename_i b' off'
      obtain ⟨hb, _⟩ := cond_some h
      simp only [Bool.and_eq_true] at hb
      have : b' = b := Nat.eq_of_beq_eq_true hb.1.1
      subst this
      have : off' = off := Nat.eq_of_beq_eq_true hb.1.2
      subst this
      obtain ⟨h1, h2, h3⟩ := hz
      refine ⟨by simpa using hb.2, h2, ?_⟩
      have hr := hc.rel b'
      unfold RelB at hr
      cases e : blkAt σ'.mem b' with
      | gone => trivial
      | raw cs => rw [e] at hr; obtain ⟨cs', hr⟩ := hr; rw [hr] at h3; simp only at h3 ⊢; rw [hc.E]; exact h3
      | arr τ xs => rw [e] at hr; rw [hr] at h3; simp only at h3 ⊢; rw [hc.E]; exact h3
      | acc τ xs => trivial
      | froz τ xs => trivial
    · cases h
  | .gptr g, z, d, y, h, hz => by
    simp only [readC] at h
    split at h
    · rename_i g'
      have : g' = g := Nat.eq_of_beq_eq_true (cond_some h).1
      subst this
      exact hz
    · cases h
  | .fn f, z, d, y, h, hz => by
    simp only [readC] at h
    split at h
    · rename_i f'
      have : f' = f := Nat.eq_of_beq_eq_true (cond_some h).1
      subst this
      obtain ⟨_, h2, h1⟩ := hz
      rcases h1 with ⟨p, hp, _⟩ | ⟨rs, h1, rfl⟩
      · simp at hp
      · exact ⟨by simp, h2, .inr ⟨rs, h1, rfl⟩⟩
    · cases h
  | .nilp, z, d, y, h, hz => by
    simp only [readC] at h
    split at h
    · cases h; exact hz
    · cases h
  | .undef, z, d, y, h, hz => hz.scalar
theorem readCs_ok (hc : Cut σ σ') : ∀ {l : List PC} {zs : List SC} {d : PCs l} {ys : List Value}, readCs σ.mem σ'.mem.length l zs = some d → All2 (RepC σ) zs ys → All2 (RepC σ') (buildCs l d) ys
  | [], [], _, _, _, .nil => .nil
  | [], _ :: _, _, _, h, _ => by simp [readCs] at h
  | _ :: _, [], _, _, h, _ => by simp [readCs] at h
  | c :: r, z :: zs, d, _, h, .cons h1 h2 => by
    simp only [readCs] at h
    split at h
    · rename_i e1 e2
      cases h
      exact .cons (readC_ok hc e1 h1) (readCs_ok hc e2 h2)
    · cases h
theorem readV_ok (hc : Cut σ σ') {v : PV} {x : TV} {d : v.D} {y : Value} (h : readV σ.mem σ'.mem.length v x = some d) (hx : RepT σ x y) : RepV σ' (buildV v d) y := by
  unfold readV at h
  split at h
  · exact readC_ok hc h hx
  · obtain ⟨ys, e, ha⟩ := hx
    exact ⟨ys, e, readCs_ok hc h ha⟩
  · cases h
theorem readTm_ok (hc : Cut σ σ') {s : St} (hm : σ.mem = s.mem) {ys : Nat → Value} (ht : ∀ t, RepT σ (getT s.tm t) (ys t)) : ∀ {l : List (Nat × PV)} {d : PTm l}, readTm s σ'.mem.length l = some d → ∀ t, RepT σ' (getT (buildTm l d) t) (ys t)
  | [], _, _, t => trivial
  | (n, v) :: r, d, h, t => by
    simp only [readTm] at h
    split at h
    · rename_i e1 e2
      cases h
      simp only [buildTm, getT]
      cases hb : Nat.beq n t with
      | true =>
        have := Nat.eq_of_beq_eq_true hb
        subst this
        rw [← hm] at e1
        exact readV_ok hc e1 (ht n)
      | false => exact readTm_ok hc hm ht e2 t
    · cases h
theorem buildMem_len : ∀ {l : List PB} {d : PMem l}, (buildMem l d).length = l.length
  | [], _ => rfl
  | _ :: r, d => by simp [buildMem, buildMem_len]
theorem readMem_get {mem : Mem} {len : Nat} : ∀ {l : List PB} {zs : List Blk} {d : PMem l}, readMem mem len l zs = some d → ∀ b, b < l.length → ∃ (p : PB) (z : Blk) (x : p.D), zs[b]? = some z ∧ readB mem len p z = some x ∧ (buildMem l d)[b]? = some (buildB p x)
  | [], _, _, _, b, hb => by simp at hb
  | p :: r, [], _, h, b, hb => by simp [readMem] at h
  | p :: r, z :: zs, d, h, b, hb => by
    simp only [readMem] at h
    split at h
    · rename_i x xs e1 e2
      cases h
      cases b with
      | zero => exact ⟨p, z, x, rfl, e1, rfl⟩
      | succ b =>
        obtain ⟨p', z', x', h1, h2, h3⟩ := readMem_get e2 b (by simpa using hb)
        exact ⟨p', z', x', h1, h2, h3⟩
    · cases h
theorem readB_rel {mem : Mem} {len : Nat} {p : PB} {z : Blk} {x : p.D} (h : readB mem len p z = some x) : RelB z (buildB p x) := by
  unfold readB at h
  split at h
  · trivial
  · exact ⟨_, rfl⟩
  · have := cast_same h; simp only [Sigma.mk.injEq] at this; obtain ⟨rfl, h2⟩ := this; cases h2; rfl
  · have := cast_same h; simp only [Sigma.mk.injEq] at this; obtain ⟨rfl, h2⟩ := this; cases h2; rfl
  · have := cast_same h; simp only [Sigma.mk.injEq] at this; obtain ⟨rfl, h2⟩ := this; cases h2; rfl
  · cases h
theorem readPat_ok {base : Base} {S0 : Nat → Prop} {s : St} {a : Act} (ho : Ok base S0 σ) (hr : RelT σ s a) {p : Pat} {x : p.D} (h : readPat p s = some x) :
    ∃ σ' : Sit, σ'.w = σ.w ∧ σ'.S = σ.S ∧ Ok base S0 σ' ∧ RelT σ' (buildPat p x) a := by
  unfold readPat at h
  obtain ⟨hb, h⟩ := cond_some h
  simp only [Bool.and_eq_true] at hb
  split at h
  · rename_i x1 x2 e1 e2
    cases h
    let σ' : Sit := { σ with mem := buildMem p.mem x2 }
    have hlen : σ'.mem.length = p.mem.length := buildMem_len
    have hat : ∀ b, b < p.mem.length → ∃ (q : PB) (x : q.D), readB σ.mem σ'.mem.length q (blkAt σ.mem b) = some x ∧ blkAt σ'.mem b = buildB q x := fun b hb => by
      obtain ⟨q, z, x, h1, h2, h3⟩ := readMem_get e2 b hb
      refine ⟨q, x, ?_, ?_⟩
      · rw [hr.mem, hlen]; unfold blkAt; rw [h1]; exact h2
      · unfold blkAt; rw [h3]; rfl
    have hout : ∀ b, ¬ b < p.mem.length → blkAt σ'.mem b = .gone := fun b hb => blkAt_ge (by rw [hlen]; omega)
    have hc : Cut σ σ' := ⟨rfl, rfl, rfl, fun b => by
      by_cases hb : b < p.mem.length
      · obtain ⟨q, x, h1, h2⟩ := hat b hb
        rw [h2]; exact readB_rel h1
      · rw [hout b hb]; trivial⟩
    have howned : ∀ b r, σ'.owned b r → σ.owned b r := fun b r h => by
      obtain ⟨h1, h2⟩ := h
      refine ⟨?_, h2⟩
      have hrel := hc.rel b
      unfold RelB at hrel
      cases e : blkAt σ'.mem b with
      | gone => rw [e] at h1; exact h1.elim
      | raw cs => rw [e] at hrel; obtain ⟨cs', h⟩ := hrel; rw [h]; trivial
      | arr τ xs => rw [e] at hrel; rw [hrel]; trivial
      | acc τ xs => rw [e] at hrel; rw [hrel]; trivial
      | froz τ xs => rw [e] at h1; exact h1.elim
    refine ⟨σ', rfl, rfl, ⟨ho.below, ho.stab0, ho.stab, fun b => ?_, fun b r h => ho.own b r (howned b r h), fun b b' r h h' => ho.inj b b' r (howned b r h) (howned b' r h')⟩, ?_⟩
    · have hent := ho.ent b
      unfold MemAt at hent ⊢
      have hrel := hc.rel b
      unfold RelB at hrel
      cases e : blkAt σ'.mem b with
      | gone => trivial
      | froz τ xs => trivial
      | arr τ xs => rw [e] at hrel; rw [hrel] at hent; exact hent
      | acc τ xs => rw [e] at hrel; rw [hrel] at hent; exact hent
      | raw cs =>
        have hb : b < p.mem.length := Classical.byContradiction fun hb => by rw [hout b hb] at e; cases e
        obtain ⟨q, x, h1, h2⟩ := hat b hb
        rw [e] at h2
        rw [e] at hrel
        obtain ⟨cs', hcs⟩ := hrel
        rw [hcs] at hent h1
        obtain ⟨r, vs, T, g1, g2, g3⟩ := hent
        cases q with
        | raw l =>
          simp only [readB] at h1
          simp only [buildB, Blk.raw.injEq] at h2
          subst h2
          exact ⟨r, vs, T, g1, g2, readCs_ok hc h1 g3⟩
        | gone => simp [buildB] at h2
        | arr τ => simp [buildB] at h2
        | acc τ => simp [buildB] at h2
        | froz τ => simp [buildB] at h2
    · refine ⟨?_, hr.defers, rfl, fun t => ?_, fun d g q y hm => by simp [buildPat] at hm⟩
      · rw [hr.size]; exact Nat.eq_of_beq_eq_true hb.1
      · rw [← hlen] at e1
        exact readTm_ok hc hr.mem hr.tm e1 t
  · cases h
theorem readPat_m0 {p : Pat} {s : St} {x : p.D} (h : readPat p s = some x) : s.m0 = 0 := by
  unfold readPat at h
  have := (cond_some h).1
  simp only [Bool.and_eq_true] at this
  exact Nat.eq_of_beq_eq_true this.2
theorem accUp_ok {base : Base} {S0 : Nat → Prop} {a : Act} : ∀ (l : List (Nat × Shape)) {σ : Sit} {s : St}, Ok base S0 σ → RelT σ s a → s.cs = [] → ∃ σ' : Sit, σ'.w = σ.w ∧ Ok base S0 σ' ∧ Goes σ σ' ∧ RelT σ' (accUp l s) a ∧ (accUp l s).m0 = s.m0
  | [], σ, s, ho, hr, _ => ⟨σ, rfl, ho, Goes.refl σ, hr, rfl⟩
  | (t, τ) :: r, σ, s, ho, hr, hcs => by
    simp only [accUp]
    split
    · rename_i e
      have hg := name_goes σ (.acc τ [])
      have hr' : RelT (σ.name (.acc τ [])) { s with tm := (t, .val (.one (.own s.mem.length))) :: s.tm, mem := s.mem ++ [.acc τ []] } a := by
        refine ⟨hr.size, hr.defers, by simp [Sit.name, hr.mem], fun t' => ?_, fun d g p x hm => by rw [hcs] at hm; simp at hm⟩
        simp only [getT]
        cases hb : Nat.beq t t' with
        | false => exact hg.repT (hr.tm t')
        | true =>
          have := Nat.eq_of_beq_eq_true hb
          subst this
          have h1 := hr.tm t
          rw [e] at h1
          obtain ⟨h1, _⟩ := h1
          rw [h1]
          refine ⟨by simp [Sit.name, hr.mem], trivial, ?_⟩
          rw [← hr.mem]
          simp only [Sit.name, blkAt_append_at]
          simp [upd]
      obtain ⟨σ', h1, h2, h3, h4, h5⟩ := accUp_ok r (name_ok ho τ) hr' hcs
      exact ⟨σ', h1, h2, hg.trans h3, h4, h5⟩
    · exact accUp_ok r ho hr hcs
/-- behind a cut where nobody else's names are about, all goes on -/
theorem adv_cut {σ0 σ σ' : Sit} (hA : Adv σ0 σ) (h0 : σ0.mem.length = 0) (hw : σ'.w = σ.w) (hS : σ'.S = σ.S) : Adv σ0 σ' := by
  have hnil : σ0.mem = [] := List.eq_nil_of_length_eq_zero h0
  refine ⟨fun r hr => by rw [hS]; exact hA.stab r hr, fun r hr => by rw [hw]; exact hA.heap r hr, fun c y hc => ?_, by omega, fun b hb => by omega⟩
  have stab := hA.stab
  have heap := hA.heap
  rw [← hw] at heap
  rw [← hS] at stab
  have hna : ∀ b, c ≠ .own b := fun b e => by subst e; have := hc.1; omega
  rw [dropAcc_other hna]
  cases c with
  | undef => exact hc
  | v x => exact hc
  | fl k o => exact hc
  | sl τ xs => exact DRep.mono stab heap hc
  | own b => exact absurd rfl (hna b)
  | ptr b off => have := hc.1; omega
  | eptr b i off => have := hc.1; omega
  | iptr τ x off =>
    obtain ⟨r, o, vs, T, fz, ds, h1, h2, h3, h4, h5⟩ := hc
    exact ⟨r, o, vs, T, fz, ds, h1, stab r h2, (heap r h2).trans h3, h4.mono stab heap, h5⟩
  | gptr g => exact hc
  | fnv o => exact DRep.mono stab heap hc
  | fn f caps =>
    obtain ⟨h1, h2, h3⟩ := hc
    cases caps with
    | cons p r => have := h1 p (by simp); omega
    | nil =>
      refine ⟨by simp, h2, ?_⟩
      rcases h3 with ⟨p, hp, _⟩ | ⟨rs, g1, g2⟩
      · simp at hp
      · exact .inr ⟨rs, by simpa using g1, g2⟩
end Vx
namespace Vx
open Go Go.RowKit
/-- what is known of the loops -/
def LoopOk (C : Cfg) (d : Nat) (fid : FuncId) (body : Code) (sp : LoopSpec) : Prop :=
  ∀ (R : Type) (ke : Nat → St → Option R) (kr : St → Option R) (r : R) (x : sp.pat.D), sp.run x ke kr = some r → ∃ n, iter (lBody C d fid body sp ke kr) n x = some r
def LoopsOk (C : Cfg) : Prop :=
  ∀ fid k sp, C.loop fid k = some sp → ∀ fn whole, C.P.funcs[fid]? = some fn → fn.body = some whole → ∀ body ∈ loopsOf whole, keyOf body = k → ∀ d, LoopOk C (d + 2) fid body sp
variable {C : Cfg} {base : Base} {S0 : Nat → Prop} {R : Type} {r : R}
/-- the rounds of a loop -/
theorem rounds_ok {d : Nat} {fid : FuncId} {body : Code} {sp : LoopSpec} {σ0 : Sit} (h0 : σ0.mem.length = 0) {kn : St → Option R} {ke : Nat → St → Option R} {kr : St → Option R}
    (hbody : ∀ (σ : Sit) (s : St) (a : Act) (kn' : St → Option R) (ke' : Nat → St → Option R) (kr' : St → Option R), Ok base S0 σ → Adv σ0 σ → RelT σ s a → s.m0 = σ0.mem.length →
      exec C (inlRun C d) true fid body s kn' ke' kr' = some r → body.wp C.P (Post base S0 σ0 r kn' ke' kr') a σ.w) :
    ∀ (n : Nat) (x : sp.pat.D) (σ : Sit) (a : Act), Ok base S0 σ → Adv σ0 σ → RelT σ (buildPat sp.pat x) a → iter (lBody C d fid body sp ke kr) n x = some r → Code.rounds C.P body (Post base S0 σ0 r kn ke kr) n a σ.w
  | 0, _, _, _, _, _, _, h => by simp [iter] at h
  | n + 1, x, σ, a, ho, hA, hr, h => by
    simp only [iter] at h
    unfold lBody at h
    have := hbody σ _ a _ _ _ ho hA hr (by rw [h0]; rfl) h
    rw [rounds_succ]
    refine wp_mono this fun e a' w' hp => ?_
    obtain ⟨σ', s', rfl, k2, k3, k4, k5, k6⟩ := hp
    cases e with
    | normal =>
      simp only at k6
      split at k6
      · rename_i y ey
        obtain ⟨σ1, g1, g2, g3, g4, g5⟩ := accUp_ok sp.accs k2 k4.clear rfl
        obtain ⟨σ2, q1, q2, q3, q4⟩ := readPat_ok g2 g4 ey
        have hA2 : Adv σ0 σ2 := adv_cut (k3.trans g3.adv) h0 q1 q2
        have := rounds_ok (kn := kn) h0 hbody n y σ2 a' q3 hA2 q4 k6
        rw [q1, g1] at this
        exact this
      · cases k6
    | exit id =>
      simp only at k6
      unfold outE at k6
      split at k6
      · split at k6
        · rename_i y ey
          obtain ⟨σ2, q1, q2, q3, q4⟩ := readPat_ok k2 k4 ey
          exact ⟨σ2, _, q1, q3, adv_cut k3 h0 q1 q2, q4, by rw [h0]; rfl, k6⟩
        · cases k6
      · cases k6
    | ret =>
      simp only at k6
      unfold outR at k6
      split at k6
      · split at k6
        · rename_i y ey
          obtain ⟨σ2, q1, q2, q3, q4⟩ := readPat_ok k2 k4 ey
          exact ⟨σ2, _, q1, q3, adv_cut k3 h0 q1 q2, q4, by rw [h0]; rfl, k6⟩
        · cases k6
      · cases k6
    | _ => exact k6.elim
/-- a piece of code does what exec says -/
theorem exec_ok (hP : ProgOk C) (hL : LoopsOk C) {inl : FuncId → List SV → Mem → (List SV → Mem → Option R) → Option R} (hI : InlOk C inl) {lp : Bool} (hlp : lp = true → ∃ d, inl = inlRun C (d + 2))
    {σ0 : Sit} (hG0 : GlobsOk C.globs σ0.w σ0.S) {fid : FuncId} {fn : Func} {whole : Code} (hf : C.P.funcs[fid]? = some fn) (hb : fn.body = some whole) :
    ∀ (c : Code), (∀ b ∈ loopsOf c, b ∈ loopsOf whole) → ∀ (σ : Sit) (s : St) (a : Act) (kn : St → Option R) (ke : Nat → St → Option R) (kr : St → Option R), Ok base S0 σ → Adv σ0 σ → RelT σ s a → s.m0 = σ0.mem.length →
      exec C inl lp fid c s kn ke kr = some r → c.wp C.P (Post base S0 σ0 r kn ke kr) a σ.w
  | .skip, _, σ, s, a, kn, ke, kr, ho, hA, hr, hm, h => wp_skip ⟨σ, s, rfl, ho, hA, hr, hm, h⟩
  | .exit id, _, σ, s, a, kn, ke, kr, ho, hA, hr, hm, h => wp_exit ⟨σ, s, rfl, ho, hA, hr, hm, h⟩
  | .ret, _, σ, s, a, kn, ke, kr, ho, hA, hr, hm, h => wp_ret ⟨σ, s, rfl, ho, hA, hr, hm, h⟩
  | .region id ops false, _, σ, s, a, kn, ke, kr, ho, hA, hr, hm, h => by
    simp only [exec] at h
    refine wp_mono (wp_region_list (runOps_ok hP hI ops (ke := ke) (kr := kr) hG0 ops.toList ho hA hr.clear hm h)) fun e a' w' hp => ?_
    obtain ⟨σ', s', k1, k2, k3, k4, k5, k6⟩ := hp
    cases e with
    | normal => exact ⟨σ', { s' with cs := [] }, k1, k2, k3, k4.clear, k5, k6⟩
    | exit id => exact ⟨σ', s', k1, k2, k3, k4, k5, k6⟩
    | ret => exact ⟨σ', s', k1, k2, k3, k4, k5, k6⟩
    | _ => exact k6.elim
  | .region id ops true, _, σ, s, a, kn, ke, kr, ho, hA, hr, hm, h => by
    simp only [exec] at h
    split at h
    · rename_i fps gs s' he
      obtain ⟨hd, h⟩ := cond_some h
      simp only [Bool.and_eq_true] at hd
      obtain ⟨hgs, h⟩ := chk_some h
      refine wp_mono (draw_ok6 hP (by have := headLen_le ops.toList; simpa using this) hd.1 hd.2 he hgs rfl ho hr.clear (hG0.adv hA) fun σ' a' k1 k2 k3 k4 =>
        runOps_ok hP hI ops (kn := fun s'' => kn { s'' with cs := [] }) (ke := ke) (kr := kr) hG0 _ k1 (hA.trans k2) k3.clear (k4.trans hm) h) fun e a' w' hp => ?_
      obtain ⟨σ', s', k1, k2, k3, k4, k5, k6⟩ := hp
      cases e with
      | normal => exact ⟨σ', { s' with cs := [] }, k1, k2, k3, k4.clear, k5, k6⟩
      | exit id => exact ⟨σ', s', k1, k2, k3, k4, k5, k6⟩
      | ret => exact ⟨σ', s', k1, k2, k3, k4, k5, k6⟩
      | _ => exact k6.elim
    · cases h
  | .seq c1 c2, hl, σ, s, a, kn, ke, kr, ho, hA, hr, hm, h => by
    simp only [exec] at h
    refine wp_seq (wp_mono (exec_ok hP hL hI hlp hG0 hf hb c1 (fun b hb' => hl b (by simp [loopsOf, hb'])) σ s a _ ke kr ho hA hr hm h) fun e a' w' hp => ?_)
    cases e with
    | normal =>
      obtain ⟨σ', s', rfl, k2, k3, k4, k5, k6⟩ := hp
      exact exec_ok hP hL hI hlp hG0 hf hb c2 (fun b hb' => hl b (by simp [loopsOf, hb'])) σ' s' a' kn ke kr k2 k3 k4 k5 k6
    | exit id => exact hp
    | ret => exact hp
    | goto l => exact hp
    | panic ch => exact hp
    | outgrown => exact hp
  | .cond c c1 c2, hl, σ, s, a, kn, ke, kr, ho, hA, hr, hm, h => by
    simp only [exec] at h
    split at h
    · rename_i t et
      obtain ⟨hv, _⟩ := ev1_ok hr (fun _ _ h => by simp at h) et
      refine wp_cond (t := t) hv ?_
      cases t with
      | true => exact exec_ok hP hL hI hlp hG0 hf hb c1 (fun b hb' => hl b (by simp [loopsOf, hb'])) σ s a kn ke kr ho hA hr hm h
      | false => exact exec_ok hP hL hI hlp hG0 hf hb c2 (fun b hb' => hl b (by simp [loopsOf, hb'])) σ s a kn ke kr ho hA hr hm h
    · cases h
  | .block id c, hl, σ, s, a, kn, ke, kr, ho, hA, hr, hm, h => by
    simp only [exec] at h
    refine wp_block (wp_mono (exec_ok hP hL hI hlp hG0 hf hb c (fun b hb' => hl b (by simp [loopsOf, hb'])) σ s a kn _ kr ho hA hr hm h) fun e a' w' hp => ?_)
    cases e with
    | normal => exact hp
    | exit id' =>
      obtain ⟨σ', s', k1, k2, k3, k4, k5, k6⟩ := hp
      simp only at k6
      simp only [Exit.inBlock]
      by_cases hid : id' = id
      · subst hid
        rw [if_pos rfl]
        rw [Nat.beq_refl] at k6
        exact ⟨σ', s', k1, k2, k3, k4, k5, k6⟩
      · rw [if_neg hid]
        have : Nat.beq id' id = false := by
          cases hq : Nat.beq id' id with
          | false => rfl
          | true => exact absurd (Nat.eq_of_beq_eq_true hq) hid
        rw [this] at k6
        exact ⟨σ', s', k1, k2, k3, k4, k5, k6⟩
    | ret => exact hp
    | goto l => exact hp
    | panic ch => exact hp
    | outgrown => exact hp
  | .loop c, hl, σ, s, a, kn, ke, kr, ho, hA, hr, hm, h => by
    simp only [exec] at h
    split at h
    · cases h
    · rename_i sp esp
      obtain ⟨hlpt, h1⟩ := cond_some h
      clear h
      split at h1
      · rename_i x ex
        obtain ⟨d, rfl⟩ := hlp hlpt
        subst hlpt
        obtain ⟨n, hn⟩ := hL fid _ sp esp fn whole hf hb c (hl c (by simp [loopsOf])) rfl d R ke kr r x h1
        obtain ⟨σ1, g1, g2, g3, g4, g5⟩ := accUp_ok sp.accs ho hr.clear rfl
        have h0 : σ0.mem.length = 0 := by rw [← hm]; exact g5.symm.trans (readPat_m0 ex)
        obtain ⟨σ2, q1, q2, q3, q4⟩ := readPat_ok g2 g4 ex
        have hA2 : Adv σ0 σ2 := adv_cut (hA.trans g3.adv) h0 q1 q2
        have := rounds_ok (kn := kn) h0 (fun σ s a kn' ke' kr' => exec_ok hP hL hI hlp hG0 hf hb c (fun b hb' => hl b (by simp [loopsOf, hb'])) σ s a kn' ke' kr') n x σ2 a q3 hA2 q4 hn
        rw [q1, g1] at this
        exact wp_loop_rounds n this
      · cases h1
  | .goto _, _, _, _, _, _, _, _, _, _, _, _, h => by simp [exec] at h
  | .label _, _, _, _, _, _, _, _, _, _, _, _, h => by simp [exec] at h
  | .rangeFunc _ _ _ _, _, _, _, _, _, _, _, _, _, _, _, h => by simp [exec] at h
end Vx
namespace Vx
open Go Go.RowKit
variable {C : Cfg} {base : Base} {S0 : Nat → Prop} {R : Type} {r : R} {σ : Sit} {s : St} {a : Act}
theorem loadVar_of {P : Program} {T : TypeId} {p : Addr} {w : World} {v : Value} (h : (Instr.loadAt T (.pointer (some p))).run P w = .ok v w) : (loadVar T p).run P w = .ok v w := by
  unfold Instr.loadAt at h
  simpa [Instr.sureAddr] using h
def resVar (tmps : Array Value) (v : ResultVar) : Sem Value :=
  match v with
  | .tmp t => pure (tmps.getD t undef)
  | .cell c T => do loadVar T (← asAddr (tmps.getD c undef))
theorem readRes_ok {P : Program} (ho : Ok base S0 σ) (hr : RelT σ s a) : ∀ {l : List ResultVar} {rs : List SV}, readRes P s l = some rs →
    ∃ zs, (l.mapM (resVar a.tmps)).run P σ.w = .ok zs σ.w ∧ All2 (RepV σ) rs zs
  | [], rs, h => by
    simp only [readRes] at h; cases h
    exact ⟨[], by simp, .nil⟩
  | .tmp t :: l, rs, h => by
    simp only [readRes] at h
    split at h
    · rename_i x rs' e1 e2
      cases h
      obtain ⟨zs, h1, h2⟩ := readRes_ok ho hr e2
      have ht := hr.tm t
      rw [e1] at ht
      exact ⟨_ :: zs, by simp [resVar, h1], .cons ht h2⟩
    · cases h
  | .cell c T :: l, rs, h => by
    simp only [readRes] at h
    split at h
    · rename_i z rs' e1 e2
      obtain ⟨zs, h1, h2⟩ := readRes_ok ho hr e2
      have ht := hr.tm c
      rw [e1] at ht
      have ptr : ∀ {cs off}, cellsAt σ.mem z = some (cs, off) → ∃ p, a.tmps.getD c undef = .pointer (some p) := fun hc => by
        obtain ⟨r, o, vs, T', fz, ds, hy, _⟩ := cellsAt_ok ho ht hc
        exact ⟨_, hy⟩
      rw [← hr.mem] at h
      split at h
      · rename_i cs off hc hT
        split at h
        · rename_i x hx
          cases h
          obtain ⟨p, hp⟩ := ptr hc
          obtain ⟨v, hv, hR⟩ := load_agg (cellsAt_ok ho ht hc) hT hx
          rw [hp] at hv
          exact ⟨v :: zs, by simp [resVar, hp, asAddr, loadVar_of hv, h1], .cons hR h2⟩
        · cases h
      · rename_i cs off hc hT
        split at h
        · rename_i x hx
          cases h
          obtain ⟨p, hp⟩ := ptr hc
          obtain ⟨v, hv, hR⟩ := load_one (cellsAt_ok ho ht hc) hT (by assumption)
          rw [hp] at hv
          exact ⟨v :: zs, by simp [resVar, hp, asAddr, loadVar_of hv, h1], .cons hR h2⟩
        · cases h
      · cases h
    · cases h
theorem results_ok {P : Program} {fn : Func} (ho : Ok base S0 σ) (hr : RelT σ s a) {rs : List SV} (h : readRes P s fn.results.toList = some rs) :
    ∃ zs, (results fn a.tmps).run P σ.w = .ok (resOf zs) σ.w ∧ All2 (RepV σ) rs zs := by
  obtain ⟨zs, h1, h2⟩ := readRes_ok ho hr h
  refine ⟨zs, ?_, h2⟩
  have he : results fn a.tmps = (do
      let vs ← fn.results.mapM (resVar a.tmps)
      pure (if h : vs.size = 1 then vs[0] else .tuple vs)) := rfl
  rw [he, Array.mapM_eq_mapM_toList]
  simp only [bind_map_left, Sem.run_bind, h1, Result.andThen_ok, Sem.run_pure]
  congr 1
  unfold resOf
  split
  · rename_i hs
    simp at hs
    match zs, hs with
    | [y], _ => rfl
  · rename_i hs
    split
    · simp at hs
    · rfl
theorem argT_get : ∀ {l : List SV} {n t : Nat}, getT (argT n l) t = (match l[t - n]? with | some x => if n ≤ t then .val x else .un | none => .un)
  | [], n, t => by simp [argT, getT]
  | x :: l, n, t => by
    simp only [argT, getT]
    cases hb : Nat.beq n t with
    | true => have := Nat.eq_of_beq_eq_true hb; subst this; simp
    | false =>
      have hne : n ≠ t := fun e => by subst e; simp [Nat.beq_refl] at hb
      simp only [cond_false]
      rw [argT_get]
      rcases Nat.lt_or_ge n t with hlt | hge
      · have : t - n = (t - (n + 1)) + 1 := by omega
        rw [this, List.getElem?_cons_succ]
        have h1 : n + 1 ≤ t := hlt
        have h2 : n ≤ t := by omega
        simp only [h1, h2, if_true]
      · have h0 : t - n = 0 := by omega
        have h1 : ¬ n + 1 ≤ t := by omega
        have h2 : ¬ n ≤ t := by omega
        rw [h0, List.getElem?_cons_zero]
        simp only [h1, h2, if_false]
        split <;> rfl
/-- the frame at a call's beginning -/
theorem start_rel {args : List SV} {ys : List Value} {n m0 : Nat} (ha : All2 (RepV σ) args ys) (hn : args.length ≤ n) :
    RelT σ { n := n, m0 := m0, tm := argT 0 args, mem := σ.mem, cs := [] } { tmps := ys.toArray ++ Array.replicate (n - ys.toArray.size) undef, defers := [] } := by
  have hlen := ha.length
  refine ⟨by simp; omega, rfl, rfl, fun t => ?_, fun d g p x hm => by simp at hm⟩
  rw [argT_get]
  simp only [Nat.sub_zero]
  cases hx : args[t]? with
  | none => trivial
  | some x =>
    obtain ⟨y, hy, hxy⟩ := ha.get hx
    simp only [Nat.zero_le, if_true]
    have : (ys.toArray ++ Array.replicate (n - ys.toArray.size) undef).getD t undef = y := by
      have hlt : t < ys.length := (List.getElem?_eq_some_iff.1 hy).1
      rw [Array.getD_eq_getD_getElem?, Array.getElem?_append_left (by simpa using hlt)]
      simp [hy]
    rw [this]
    exact hxy
/-- a function's body -/
theorem bodyRun_ok (hP : ProgOk C) (hL : LoopsOk C) {inl : FuncId → List SV → Mem → (List SV → Mem → Option R) → Option R} (hI : InlOk C inl) {lp : Bool} (hlp : lp = true → ∃ d, inl = inlRun C (d + 2))
    {f : FuncId} {fn : Func} (hf : C.P.funcs[f]? = some fn) {m0 : Nat} {args : List SV} {mem : Mem} {k : List SV → Mem → Option R} (h : bodyRun C inl lp f fn m0 args mem k = some r) {ys : List Value}
    {σ0 : Sit} (h0 : m0 = σ0.mem.length) (hA : Adv σ0 σ) (ho : Ok base S0 σ) (hm : σ.mem = mem) (hG : GlobsOk C.globs σ0.w σ0.S) (ha : All2 (RepV σ) args ys) :
    (∃ fn, C.P.funcs[f]? = some fn ∧ fn.body.isNone = false ∧ (fn.name == "runtime.NumGoroutine") = false) ∧
    Calls C.P f ys.toArray σ.w fun e w' => ∃ (σ' : Sit) (rs : List SV) (zs : List Value), e = .returned (resOf zs) ∧ σ'.w = w' ∧ Ok base S0 σ' ∧ Adv σ0 σ' ∧ All2 (RepV σ') rs zs ∧ k rs σ'.mem = some r := by
  unfold bodyRun at h
  split at h
  · rename_i c hc
    obtain ⟨hb, h⟩ := cond_some h
    simp only [Bool.and_eq_true, Bool.not_eq_true'] at hb
    subst hm
    refine ⟨⟨fn, hf, by simp [hc], hb.2⟩, ?_⟩
    refine calls_of_wp hf hc (wp_mono (exec_ok hP hL hI hlp hG hf hc c (fun _ h => h) σ _ _ _ _ _ ho hA (start_rel ha (by simpa using hb.1)) h0 h) fun e a' w' hp => ?_)
    obtain ⟨σ', s', rfl, k2, k3, k4, k5, k6⟩ := hp
    have hfin : fin C.P fn k s' = some r → a'.defers = [] ∧ ∃ v, (results fn a'.tmps).run C.P σ'.w = .ok v σ'.w ∧
        ∃ (σ'' : Sit) (rs : List SV) (zs : List Value), Ending.returned v = .returned (resOf zs) ∧ σ''.w = σ'.w ∧ Ok base S0 σ'' ∧ Adv σ0 σ'' ∧ All2 (RepV σ'') rs zs ∧ k rs σ''.mem = some r := fun h => by
      unfold fin at h
      split at h
      · rename_i rs ers
        obtain ⟨zs, h1, h2⟩ := results_ok k2 k4 ers
        exact ⟨k4.defers, _, h1, σ', rs, zs, rfl, rfl, k2, k3, h2, by rw [k4.mem]; exact h⟩
      · cases h
    cases e with
    | normal => exact hfin k6
    | ret => exact hfin k6
    | exit id => cases k6
    | _ => exact k6.elim
  · cases h
theorem inlRun_ok (hP : ProgOk C) (hL : LoopsOk C) : ∀ d, InlOk C (inlRun (R := R) C d)
  | 0, f, args, mem, k, r, h => by simp [inlRun] at h
  | d + 1, f, args, mem, k, r, h => by
    intro base S0 σ ys ho hm hG ha
    simp only [inlRun] at h
    split at h
    · rename_i fn hf
      obtain ⟨_, h⟩ := cond_some h
      subst hm
      refine bodyRun_ok hP hL (inlRun_ok hP hL d) (fun hl => ?_) hf h rfl (Adv.refl σ) ho rfl hG ha
      have : 2 ≤ d := by simpa using hl
      exact ⟨d - 2, by rw [show d - 2 + 2 = d by omega]⟩
    · cases h
/-- the situation before a call on plain data -/
theorem start_ok {w : World} {St : Nat → Prop} (M : Nat → Prop) (h : ∀ q, St q → q < w.heap.size) : Ok ⟨w, M⟩ St { E := ⟨fun _ => none, fun _ => 0⟩, mem := [], w := w, S := St } :=
  ⟨⟨rfl, rfl, rfl, Nat.le_refl _, fun _ _ _ => rfl⟩, fun _ h => h, fun r hr => ⟨h r hr, .inl hr⟩, fun b => by unfold MemAt; simp [blkAt], fun b r hb => by obtain ⟨h1, _⟩ := hb; simp [blkAt, ownedB] at h1, fun b b' r hb => by obtain ⟨h1, _⟩ := hb; simp [blkAt, ownedB] at h1⟩
theorem run_calls (hP : ProgOk C) (hL : LoopsOk C) {d : Nat} {f : FuncId} {fn : Func} (hf : C.P.funcs[f]? = some fn) {I O : Sig} {x : DenS I} {y : DenS O} (h : run C d f fn I O x = some y)
    {w : World} {St : Nat → Prop} {ys : List Value} {rs : List Nat} (hSt : ∀ q, St q → q < w.heap.size) (hG : GlobsOk C.globs w St) (hx : SRep w St I x ys rs) (hn : rs.Nodup) (hr : ∀ r ∈ rs, ¬ St r ∧ r < w.heap.size) :
    Calls C.P f ys.toArray w fun e w' => ∃ zs rs', e = .returned (resOf zs) ∧ Low ⟨w, fun r => r ∈ rs⟩ w' ∧ (∀ r ∈ rs', Base.new ⟨w, fun r => r ∈ rs⟩ r ∧ r < w'.heap.size) ∧ rs'.Nodup ∧
      SRep w' (fun q => (St q ∨ (Base.new ⟨w, fun r => r ∈ rs⟩ q ∧ q < w'.heap.size)) ∧ q ∉ rs') O y zs rs' := by
  unfold run at h
  split at h
  · rename_i args m0 ea
    have hok := start_ok (w := w) (fun r => r ∈ rs) hSt
    obtain ⟨σ1, c1, c2, c3, c4, c5, c6⟩ := giveS_ok (σ := { E := ⟨fun _ => none, fun _ => 0⟩, mem := [], w := w, S := St }) hok hx hn (fun r h => ⟨.inr h, (hr r h).2, (hr r h).1, fun b hb => by obtain ⟨h1, _⟩ := hb; simp [blkAt, ownedB] at h1⟩) ea
    obtain ⟨_, hc⟩ := bodyRun_ok hP hL (inlRun_ok hP hL d) (lp := Nat.ble 2 d) (fun hl => by
      have : 2 ≤ d := by simpa using hl
      exact ⟨d - 2, by rw [show d - 2 + 2 = d by omega]⟩) hf h (σ0 := { E := ⟨fun _ => none, fun _ => 0⟩, mem := [], w := w, S := St }) rfl c5.adv c4 c1 hG c6
    rw [c2] at hc
    refine hc.mono fun e w' he => ?_
    obtain ⟨σ', rs0, zs, rfl, rfl, k1, k2, k3, k4⟩ := he
    cases hz : frzS σ'.mem O rs0 with
    | mk rs1 m1 =>
      rw [hz] at k4
      simp only at k4
      obtain ⟨σ2, a1, a2, a3, a4, a5, a6⟩ := frzS_ok k1 hz
      split at k4
      · rename_i y' m2 ey
        cases k4
        rw [← a1] at ey
        obtain ⟨σ3, rs', b1, b2, b3, b4, b5, b6, b7, b8, b9, b10⟩ := takeS_ok a4 (a6 _ k3) ey
        have hown : ∀ r ∈ rs', Base.new ⟨w, fun r => r ∈ rs⟩ r ∧ r < σ'.w.heap.size ∧ ¬ σ2.S r := fun r hr => by
          obtain ⟨⟨b, hb⟩, _⟩ := b9 r hr
          have := a4.own b r hb
          rw [a2] at this
          exact this
        refine ⟨zs, rs', rfl, k1.below, fun r hr => ⟨(hown r hr).1, (hown r hr).2.1⟩, b8, ?_⟩
        rw [a2] at b7
        refine b7.mono (fun q hq => ?_) (fun _ _ => rfl) (fun _ _ => rfl)
        have hq' := a4.stab q hq
        rw [a2] at hq'
        refine ⟨?_, fun h => (hown q h).2.2 hq⟩
        rcases hq'.2 with h | h
        · exact .inl h
        · exact .inr ⟨h, hq'.1⟩
      · cases k4
  · cases h
/-- what is computed is what is called -/
theorem sound_of (hP : ProgOk C) (hL : LoopsOk C) (d : Nat) (f : FuncId) (fn : Func) (hf : C.P.funcs[f]? = some fn) (hb : fn.body.isNone = false) (hn : (fn.name == "runtime.NumGoroutine") = false) (S : Sum)
    (h : ∀ x, S.pre x = true → run C d f fn S.ins S.outs x = some (S.F x)) : Sound C.P C.globs f S :=
  ⟨fun x hx0 _ _ _ _ hSt hG hx hnd hr => .inl ⟨⟨fn, hf, hb, hn⟩, run_calls hP hL hf (h x hx0) hSt hG hx hnd hr⟩⟩
end Vx
namespace Vx
open Go Go.RowKit
/-- the data at a loop's exits -/
@[reducible] def OutT : List (Nat × Pat) → Option Pat → Type
  | [], none => Empty
  | [], some p => p.D
  | (_, p) :: r, o => p.D ⊕ OutT r o
/-- what comes behind an inner loop -/
@[reducible] def obind {A R : Type} (o : Option A) (f : A → Option R) : Option R := match o with
  | some y => f y
  | none => none
@[reducible] def obind2 {A A' R : Type} (o : A ⊕ A') (f : A → Option R) (g : A' → Option R) : Option R := match o with
  | .inl y => f y
  | .inr y => g y
def outK {R : Type} : (l : List (Nat × Pat)) → (o : Option Pat) → (Nat → St → Option R) → (St → Option R) → OutT l o → Option R
  | [], none, _, _ => fun _ => none
  | [], some p, _, kr => fun y => kr (buildPat p y)
  | (i, p) :: r, o, ke, kr => fun z => obind2 z (fun y => ke i (buildPat p y)) (fun z => outK r o ke kr z)
def injE {R : Type} : (l : List (Nat × Pat)) → (o : Option Pat) → (OutT l o → Option R) → Nat → St → Option R
  | [], _, _, _, _ => none
  | (i, p) :: r, o, e, id, s => bif Nat.beq i id then (match readPat p s with | some y => e (.inl y) | none => none) else injE r o (fun z => e (.inr z)) id s
def injR {R : Type} : (l : List (Nat × Pat)) → (o : Option Pat) → (OutT l o → Option R) → St → Option R
  | [], none, _, _ => none
  | [], some p, e, s => match readPat p s with | some y => e y | none => none
  | _ :: r, o, e, s => injR r o (fun z => e (.inr z)) s
/-- a loop's body, as a step from head to head or to an exit -/
noncomputable def lStep (C : Cfg) (d : Nat) (fid : FuncId) (body : Code) (pat : Pat) (accs : List (Nat × Shape)) (exits : List (Nat × Pat)) (ret : Option Pat) {R : Type} (L : pat.D → Option R) (e : OutT exits ret → Option R) (x : pat.D) : Option R :=
  exec C (inlRun C d) true fid body (buildPat pat x) (fun s' => match readPat pat (accUp accs { s' with cs := [] }) with
    | some y => L y
    | none => none) (injE exits ret e) (injR exits ret e)
theorem outE_eq {R : Type} (ke : Nat → St → Option R) (kr : St → Option R) : ∀ (l : List (Nat × Pat)) (o : Option Pat) (id : Nat) (s : St), outE l ke id s = injE l o (outK l o ke kr) id s
  | [], _, _, _ => rfl
  | (i, p) :: r, o, id, s => by
    unfold outE
    simp only [findPat, injE]
    cases hb : Nat.beq i id with
    | true =>
      have := Nat.eq_of_beq_eq_true hb
      subst this
      rfl
    | false =>
      simp only [cond_false]
      have ih := outE_eq ke kr r o id s
      unfold outE at ih
      rw [ih]
      rfl
theorem outR_eq {R : Type} (ke : Nat → St → Option R) (kr : St → Option R) : ∀ (l : List (Nat × Pat)) (o : Option Pat) (s : St), outR o kr s = injR l o (outK l o ke kr) s
  | [], none, _ => rfl
  | [], some p, s => rfl
  | (i, p) :: r, o, s => by
    simp only [injR]
    rw [outR_eq ke kr r o s]
    rfl
/-- any number of rounds that ends -/
noncomputable def lfix {D Y : Type} (φ : (D → Option Y) → D → Option Y) (x : D) : Option Y :=
  open Classical in if h : ∃ y, ∃ n, iter φ n x = some y then some (Classical.choose h) else none
theorem lfix_iter {D Y : Type} {φ : (D → Option Y) → D → Option Y} {x : D} {y : Y} (h : lfix φ x = some y) : ∃ n, iter φ n x = some y := by
  unfold lfix at h
  split at h
  · rename_i hex
    cases h
    exact Classical.choose_spec hex
  · cases h
/-- a step that uses what it is given, and looks at nothing of it -/
def Par {D Y : Type} (Φ : {R : Type} → (D → Option R) → (Y → Option R) → D → Option R) : Prop :=
  ∀ (A B : Type) (rel : Option A → Option B → Prop) (L : D → Option A) (L' : D → Option B) (e : Y → Option A) (e' : Y → Option B), rel none none → (∀ x, rel (L x) (L' x)) → (∀ y, rel (e y) (e' y)) → ∀ x, rel (Φ L e x) (Φ L' e' x)
theorem rel_cond {A B : Type} {rel : Option A → Option B → Prop} {c : Bool} {a a' : Option A} {b b' : Option B} (h : rel a b) (h' : rel a' b') : rel (bif c then a else a') (bif c then b else b') := by
  cases c
  · exact h'
  · exact h
theorem rel_obind {A B T : Type} {rel : Option A → Option B → Prop} (h0 : rel none none) {o : Option T} {f : T → Option A} {g : T → Option B} (h : ∀ y, rel (f y) (g y)) : rel (obind o f) (obind o g) := by
  cases o with
  | none => exact h0
  | some y => exact h y
theorem rel_obind2 {A B T T' : Type} {rel : Option A → Option B → Prop} {o : T ⊕ T'} {f : T → Option A} {g : T → Option B} {f' : T' → Option A} {g' : T' → Option B} (h : ∀ y, rel (f y) (g y)) (h' : ∀ y, rel (f' y) (g' y)) :
    rel (obind2 o f f') (obind2 o g g') := by
  cases o with
  | inl y => exact h y
  | inr y => exact h' y
section
variable {D Y : Type} {Φ : {R : Type} → (D → Option R) → (Y → Option R) → D → Option R}
theorem iter_mono (hp : Par Φ) : ∀ (n m : Nat) (x : D) (y : Y), iter (fun L => Φ L some) n x = some y → n ≤ m → iter (fun L => Φ L some) m x = some y
  | 0, _, _, _, h, _ => by simp [iter] at h
  | n + 1, 0, _, _, _, h => by omega
  | n + 1, m + 1, x, y, h, hm => by
    simp only [iter] at h ⊢
    exact hp Y Y (fun a b => ∀ y, a = some y → b = some y) _ _ _ _ (fun _ h => h) (fun x y h => iter_mono hp n m x y h (by omega)) (fun _ _ h => h) x y h
theorem lfix_of (hp : Par Φ) {n : Nat} {x : D} {y : Y} (h : iter (fun L => Φ L some) n x = some y) : lfix (fun L => Φ L some) x = some y := by
  have hex : ∃ y, ∃ n, iter (fun L => Φ L some) n x = some y := ⟨y, n, h⟩
  unfold lfix
  rw [dif_pos hex]
  obtain ⟨m, hm⟩ := Classical.choose_spec hex
  have h1 := iter_mono hp n (max n m) x y h (by omega)
  have h2 := iter_mono hp m (max n m) x _ hm (by omega)
  rw [h1] at h2
  rw [← h2]
/-- a loop with a measure -/
theorem lfix_ind (hp : Par Φ) (μ : D → Nat) (I : D → Prop) (post : D → Y) (h : ∀ (L : D → Option Y) x, I x → (∀ x', I x' → μ x' < μ x → L x' = some (post x')) → Φ L some x = some (post x)) : ∀ x, I x → lfix (fun L => Φ L some) x = some (post x) := by
  have key : ∀ m x, I x → μ x < m → iter (fun L => Φ L some) m x = some (post x) := by
    intro m
    induction m with
    | zero => intro x _ h; omega
    | succ m ih =>
      intro x hx hm
      simp only [iter]
      exact h _ x hx fun x' hx' hlt => ih x' hx' (by omega)
  intro x hx
  exact lfix_of hp (key (μ x + 1) x hx (by omega))
end
@[reducible] noncomputable def LoopSpec.of (pat : Pat) (accs : List (Nat × Shape)) (exits : List (Nat × Pat)) (ret : Option Pat) (runF : pat.D → Option (OutT exits ret)) : LoopSpec :=
  { pat, accs, exits, ret, run := fun x ke kr => match runF x with
      | some z => outK exits ret ke kr z
      | none => none }
theorem lBody_eq {C : Cfg} {d : Nat} {fid : FuncId} {body : Code} (sp : LoopSpec) {R : Type} (ke : Nat → St → Option R) (kr : St → Option R) (L : sp.pat.D → Option R) (x : sp.pat.D) :
    lBody C d fid body sp ke kr L x = lStep C d fid body sp.pat sp.accs sp.exits sp.ret L (outK sp.exits sp.ret ke kr) x := by
  have h1 : outE sp.exits ke = injE sp.exits sp.ret (outK sp.exits sp.ret ke kr) := funext fun id => funext fun s => outE_eq ke kr sp.exits sp.ret id s
  have h2 : outR sp.ret kr = injR sp.exits sp.ret (outK sp.exits sp.ret ke kr) := funext fun s => outR_eq ke kr sp.exits sp.ret s
  unfold lBody lStep
  rw [← h1, ← h2]
  congr 1
  funext s'
  cases readPat sp.pat (accUp sp.accs { s' with cs := [] }) <;> rfl
theorem loopOk_of {C : Cfg} {d : Nat} {fid : FuncId} {body : Code} {pat : Pat} {accs : List (Nat × Shape)} {exits : List (Nat × Pat)} {ret : Option Pat} (Φ : {R : Type} → (pat.D → Option R) → (OutT exits ret → Option R) → pat.D → Option R) (hp : Par Φ)
    (hs : ∀ (R : Type) (L : pat.D → Option R) (e : OutT exits ret → Option R) x, lStep C d fid body pat accs exits ret L e x = Φ L e x) :
    LoopOk C d fid body (LoopSpec.of pat accs exits ret (lfix fun L => Φ L some)) := by
  intro R ke kr r x h
  have hbody : ∀ (L : pat.D → Option R) (x : pat.D), lBody C d fid body (LoopSpec.of pat accs exits ret (lfix fun L => Φ L some)) ke kr L x = Φ L (outK exits ret ke kr) x := fun L x =>
    (lBody_eq (LoopSpec.of pat accs exits ret (lfix fun L => Φ L some)) ke kr L x).trans (hs R L (outK exits ret ke kr) x)
  simp only [LoopSpec.of] at h
  split at h
  · rename_i z hz
    obtain ⟨n, hn⟩ := lfix_iter hz
    refine ⟨n, ?_⟩
    have key : ∀ n (x : pat.D) z, iter (fun L => Φ L some) n x = some z → iter (lBody C d fid body (LoopSpec.of pat accs exits ret (lfix fun L => Φ L some)) ke kr) n x = outK exits ret ke kr z := by
      intro n
      induction n with
      | zero => intro x z h; simp [iter] at h
      | succ n ih =>
        intro x z h
        simp only [iter] at h
        exact (hbody _ x).trans <| hp _ R (fun a b => ∀ z, a = some z → b = outK exits ret ke kr z) _ _ _ _ (fun _ h => by cases h) (fun x z h => ih x z h) (fun y z h => by cases h; rfl) x z h
    exact (key n x z hn).trans h
  · cases h
/-- a function by what it computes -/
noncomputable def sumOf (I O : Sig) (t : DenS I → Option (DenS O)) (dflt : DenS O) : Sum := { ins := I, outs := O, pre := fun x => (t x).isSome, F := fun x => (t x).getD dflt }
theorem sumOf_sound {C : Cfg} (hP : ProgOk C) (hL : LoopsOk C) (d : Nat) (f : FuncId) (fn : Func) (hf : C.P.funcs[f]? = some fn) (hb : fn.body.isNone = false) (hn : (fn.name == "runtime.NumGoroutine") = false) (I O : Sig) (t : DenS I → Option (DenS O)) (dflt : DenS O)
    (h : ∀ x, run C d f fn I O x = t x) : Sound C.P C.globs f (sumOf I O t dflt) :=
  sound_of hP hL d f fn hf hb hn _ fun x hx => by
    refine (h x).trans ?_
    simp only [sumOf] at hx ⊢
    cases ht : t x with
    | none => rw [ht] at hx; cases hx
    | some y => rfl
def DenS.dflt : (S : Sig) → DenS S
  | [] => ()
  | (_, τ) :: r => (τ.dflt, DenS.dflt r)
/-- a loop's body by its name -/
def bodyOf (fn : Func) (k : Nat) : Code := match fn.body with
  | some c => ((loopsOf c).find? fun b => Nat.beq (keyOf b) k).getD .skip
  | none => .skip
def nodupN : List Nat → Bool
  | [] => true
  | n :: r => !(memB n r) && nodupN r
theorem find_key : ∀ {l : List Code}, nodupN (l.map keyOf) = true → ∀ {b : Code} {k : Nat}, b ∈ l → keyOf b = k → l.find? (fun b => Nat.beq (keyOf b) k) = some b
  | [], _, b, k, h, _ => by simp at h
  | c :: l, hn, b, k, hb, hk => by
    simp only [List.map_cons, nodupN, Bool.and_eq_true, Bool.not_eq_true'] at hn
    rw [List.find?_cons]
    rcases List.mem_cons.1 hb with rfl | hb
    · subst hk; simp [Nat.beq_refl]
    · have : Nat.beq (keyOf c) k = false := by
        cases hq : Nat.beq (keyOf c) k with
        | false => rfl
        | true =>
          have e := Nat.eq_of_beq_eq_true hq
          have : memB (keyOf c) (l.map keyOf) = true := memB_iff.2 (by rw [e, ← hk]; exact List.mem_map_of_mem hb)
          rw [this] at hn; cases hn.1
      rw [this]
      exact find_key hn.2 hb hk
theorem bodyOf_eq {fn : Func} {whole : Code} (hw : fn.body = some whole) (hn : nodupN ((loopsOf whole).map keyOf) = true) {b : Code} {k : Nat} (hb : b ∈ loopsOf whole) (hk : keyOf b = k) : b = bodyOf fn k := by
  unfold bodyOf
  rw [hw]
  simp only [find_key hn hb hk, Option.getD_some]
/-- the summaries of a configuration, one by one -/
def AllSound (P : Program) (G : List (Nat × Sigma fun τ => List (Den τ))) : List (FuncId × Sum) → Prop
  | [] => True
  | (f, S) :: r => Sound P G f S ∧ AllSound P G r
theorem sumsOk_of {P : Program} {G : List (Nat × Sigma fun τ => List (Den τ))} : ∀ {l : List (FuncId × Sum)}, AllSound P G l → ∀ f mem args S, findSum l f mem args = some S → Sound P G f S
  | [], _, f, mem, args, S, h => by simp [findSum] at h
  | (g, T) :: r, ha, f, mem, args, S, h => by
    simp only [findSum] at h
    cases hb : Nat.beq g f && fitA mem T.ins args with
    | true =>
      rw [hb] at h
      simp only [cond_true, Option.some.injEq] at h
      subst h
      simp only [Bool.and_eq_true] at hb
      have := Nat.eq_of_beq_eq_true hb.1
      subst this
      exact ha.1
    | false => rw [hb] at h; exact sumsOk_of ha.2 f mem args S h
def AllLoops (C : Cfg) (fid : FuncId) (fn : Func) : List (FuncId × Nat × LoopSpec) → Prop
  | [] => True
  | (f, k, sp) :: r => f = fid ∧ (∀ d, LoopOk C (d + 2) fid (bodyOf fn k) sp) ∧ AllLoops C fid fn r
theorem findLoop_of {C : Cfg} {fid : FuncId} {fn : Func} : ∀ {l : List (FuncId × Nat × LoopSpec)}, AllLoops C fid fn l → ∀ {f k sp}, findLoop l f k = some sp → f = fid ∧ ∀ d, LoopOk C (d + 2) fid (bodyOf fn k) sp
  | [], _, f, k, sp, h => by simp [findLoop] at h
  | (g, j, T) :: r, ha, f, k, sp, h => by
    simp only [findLoop] at h
    cases hb : (Nat.beq g f && Nat.beq j k) with
    | true =>
      rw [hb] at h
      simp only [cond_true, Option.some.injEq] at h
      subst h
      simp only [Bool.and_eq_true] at hb
      have e1 := Nat.eq_of_beq_eq_true hb.1
      have e2 := Nat.eq_of_beq_eq_true hb.2
      subst e1 e2
      exact ⟨ha.1, ha.2.1⟩
    | false => rw [hb] at h; exact findLoop_of ha.2.2 h
/-- the loops of a configuration, all of one function -/
theorem loopsOk_of {C : Cfg} {fid : FuncId} {fn : Func} (hf : C.P.funcs[fid]? = some fn) (hn : ∀ whole, fn.body = some whole → nodupN ((loopsOf whole).map keyOf) = true) (ha : AllLoops C fid fn C.loops) : LoopsOk C := by
  intro f k sp h fn' whole hf' hw body hb hk d
  obtain ⟨rfl, hl⟩ := findLoop_of ha h
  rw [hf] at hf'
  cases hf'
  rw [bodyOf_eq hw (hn whole hw) hb hk]
  exact hl d
/-- all that a function without a fault in its text needs -/
theorem fn_sound (C : Cfg) (d : Nat) (f : FuncId) (fn : Func) (hm : C.P.follows .mixedOrders = true) (hf : C.P.funcs[f]? = some fn) (hb : (match fn.body with | some c => nodupN ((loopsOf c).map keyOf) | none => false) = true) (hn : (fn.name == "runtime.NumGoroutine") = false)
    (hs : AllSound C.P C.globs C.sums) (hl : AllLoops C f fn C.loops) (I O : Sig) (t : DenS I → Option (DenS O)) (dflt : DenS O) (h : ∀ x, run C d f fn I O x = t x) : Sound C.P C.globs f (sumOf I O t dflt) := by
  have hb' : ∃ c, fn.body = some c ∧ nodupN ((loopsOf c).map keyOf) = true := by
    cases e : fn.body with
    | none => rw [e] at hb; cases hb
    | some c => rw [e] at hb; exact ⟨c, rfl, hb⟩
  obtain ⟨c, e, hc⟩ := hb'
  exact sumOf_sound ⟨fun g mem args S => sumsOk_of hs g mem args S, hm⟩ (loopsOk_of hf (fun w hw => by rw [e] at hw; cases hw; exact hc) hl) d f fn hf (by rw [e]; rfl) hn I O t dflt h
/-- beside more tables -/
theorem Sound.more {P : Program} {G G' : List (Nat × Sigma fun τ => List (Den τ))} {f : FuncId} {S : Sum} (hs : Sound P G f S) (h : ∀ g x, findGlob G g = some x → findGlob G' g = some x) : Sound P G' f S :=
  ⟨fun x hp w St ys rs a hG b c d => hs.calls x hp w St ys rs a (fun g τ xs e => hG g τ xs (h g _ e)) b c d⟩
end Vx
namespace Vx
open Go Go.Proofs
abbrev rowsSh : Shape := .pair (.int .i64) (.pair (.int .i64) (.pair (.int .i64) (.pair (.int .i64) .unit)))
def k_rows : List (Den rowsSh) := [(16,11,-14,15,()), (16,8,-126,127,()), (32,24,-126,127,()), (64,53,-1022,1023,())]
def G0 : List (Nat × Sigma fun τ => List (Den τ)) := [(0, ⟨rowsSh, k_rows⟩)]
theorem mixedOk : Tryd.prog.follows .mixedOrders = true := by kernel_rfl
/-- vernier/format.Params -/
abbrev I69 : Sig := [(false, .int .i64)]
abbrev O69 : Sig := [(true, .pair (.int .i64) (.pair (.int .i64) (.pair (.int .i64) (.pair (.int .i64) (.unit))))), (false, .int .i64)]
def t69 (a0 : Den (.int .i64)) : Option (DenS O69) :=
  bif ((decide (a0 < (0 : Int))) || (decide (a0 ≥ (4 : Int)))) then
  (some (((0 : Int), ((0 : Int), ((0 : Int), ((0 : Int), ())))), ((2 : Int), ())))
  else bif ((decide ((0 : Int) ≤ a0)) && (decide (a0 < ((4 : Nat) : Int)))) then
  (some ((Vx.k_rows.getD (Int.toNat a0) ((0 : Int), ((0 : Int), ((0 : Int), ((0 : Int), ()))))), ((0 : Int), ())))
  else none
theorem r69 (a0 : Den (.int .i64)) :
    run { P := Go.Proofs.Tryd.prog, sums := [], loops := [], globs := G0 } 9 69 Go.Proofs.Tryd.f69 I69 O69 (a0, ()) = t69 a0 := by kernel_rfl
noncomputable def T69 (x : DenS I69) : Option (DenS O69) := t69 x.1
noncomputable def C69 : Cfg := { P := Go.Proofs.Tryd.prog, sums := [], loops := [], globs := G0 }
noncomputable def S69 : Sum := sumOf I69 O69 T69 (DenS.dflt O69)
theorem S69_sound : Sound Go.Proofs.Tryd.prog G0 69 S69 :=
  fn_sound C69 9 69 Go.Proofs.Tryd.f69 mixedOk (by kernel_rfl) (by kernel_rfl) (by kernel_rfl) trivial trivial I69 O69 T69 _ fun x => r69 x.1
/-- vernier/format.Check -/
abbrev I66 : Sig := [(false, .int .i64), (false, .int .u64)]
abbrev O66 : Sig := [(false, .int .i64)]
def t66 (p69 : DenS I69 → Bool) (f69 : DenS I69 → DenS O69) (a0 : Den (.int .i64)) (a1 : Den (.int .u64)) : Option (DenS O66) :=
  bif (p69 (a0, ())) then
  (bif ((f69 (a0, ())).2.1 != (0 : Int)) then
  (some (f69 (a0, ())).2)
  else bif ((decide ((0 : Int) ≤ (f69 (a0, ())).1.1)) || (!(decide ((f69 (a0, ())).1.1 < (64 : Int))))) then
  (bif ((decide ((f69 (a0, ())).1.1 < (64 : Int))) && ((Vx.shrI Go.IntKind.u64 a1 (f69 (a0, ())).1.1) != (0 : Int))) then
  (some ((4 : Int), ()))
  else some ((0 : Int), ()))
  else none)
  else none
theorem r66 (p69 : DenS I69 → Bool) (f69 : DenS I69 → DenS O69) (a0 : Den (.int .i64)) (a1 : Den (.int .u64)) :
    run { P := Go.Proofs.Tryd.prog, sums := [(69, ⟨I69, O69, p69, f69⟩)], loops := [], globs := G0 } 9 66 Go.Proofs.Tryd.f66 I66 O66 (a0, a1, ()) = t66 p69 f69 a0 a1 := by kernel_rfl
noncomputable def T66 (x : DenS I66) : Option (DenS O66) := t66 S69.pre S69.F x.1 x.2.1
noncomputable def C66 : Cfg := { P := Go.Proofs.Tryd.prog, sums := [(69, S69)], loops := [], globs := G0 }
noncomputable def S66 : Sum := sumOf I66 O66 T66 (DenS.dflt O66)
theorem S66_sound : Sound Go.Proofs.Tryd.prog G0 66 S66 :=
  fn_sound C66 9 66 Go.Proofs.Tryd.f66 mixedOk (by kernel_rfl) (by kernel_rfl) (by kernel_rfl) ⟨S69_sound, trivial⟩ trivial I66 O66 T66 _ fun x => r66 S69.pre S69.F x.1 x.2.1
/-- vernier/format.ones -/
abbrev I91 : Sig := [(false, .int .i64)]
abbrev O91 : Sig := [(false, .int .u64)]
def t91 (a0 : Den (.int .i64)) : Option (DenS O91) :=
  bif (decide ((0 : Int) ≤ a0)) then
  (some ((Go.IntKind.wrap Go.IntKind.u64 ((Vx.shlI Go.IntKind.u64 (1 : Int) a0) - (1 : Int))), ()))
  else none
theorem r91 (a0 : Den (.int .i64)) :
    run { P := Go.Proofs.Tryd.prog, sums := [], loops := [], globs := G0 } 9 91 Go.Proofs.Tryd.f91 I91 O91 (a0, ()) = t91 a0 := by kernel_rfl
noncomputable def T91 (x : DenS I91) : Option (DenS O91) := t91 x.1
noncomputable def C91 : Cfg := { P := Go.Proofs.Tryd.prog, sums := [], loops := [], globs := G0 }
noncomputable def S91 : Sum := sumOf I91 O91 T91 (DenS.dflt O91)
theorem S91_sound : Sound Go.Proofs.Tryd.prog G0 91 S91 :=
  fn_sound C91 9 91 Go.Proofs.Tryd.f91 mixedOk (by kernel_rfl) (by kernel_rfl) (by kernel_rfl) trivial trivial I91 O91 T91 _ fun x => r91 x.1
/-- vernier/format.split -/
abbrev I90 : Sig := [(true, .pair (.int .i64) (.pair (.int .i64) (.pair (.int .i64) (.pair (.int .i64) (.unit))))), (false, .int .u64)]
abbrev O90 : Sig := [(false, .bool), (false, .int .u64), (false, .int .u64)]
def t90 (p91 : DenS I91 → Bool) (f91 : DenS I91 → DenS O91) (a0 : Den (.pair (.int .i64) (.pair (.int .i64) (.pair (.int .i64) (.pair (.int .i64) (.unit)))))) (a1 : Den (.int .u64)) : Option (DenS O90) :=
  bif (decide ((0 : Int) ≤ (Go.IntKind.wrap Go.IntKind.i64 (a0.1 - (1 : Int))))) then
  (bif (decide ((0 : Int) ≤ (Go.IntKind.wrap Go.IntKind.i64 (a0.2.1 - (1 : Int))))) then
  (bif (p91 ((Go.IntKind.wrap Go.IntKind.i64 (a0.1 - a0.2.1)), ())) then
  (bif (p91 ((Go.IntKind.wrap Go.IntKind.i64 (a0.2.1 - (1 : Int))), ())) then
  (some (((Vx.shrI Go.IntKind.u64 a1 (Go.IntKind.wrap Go.IntKind.i64 (a0.1 - (1 : Int)))) != (0 : Int)), ((Vx.andI Go.IntKind.u64 (Vx.shrI Go.IntKind.u64 a1 (Go.IntKind.wrap Go.IntKind.i64 (a0.2.1 - (1 : Int)))) (f91 ((Go.IntKind.wrap Go.IntKind.i64 (a0.1 - a0.2.1)), ())).1), ((Vx.andI Go.IntKind.u64 a1 (f91 ((Go.IntKind.wrap Go.IntKind.i64 (a0.2.1 - (1 : Int))), ())).1), ()))))
  else none)
  else none)
  else none)
  else none
theorem r90 (p91 : DenS I91 → Bool) (f91 : DenS I91 → DenS O91) (a0 : Den (.pair (.int .i64) (.pair (.int .i64) (.pair (.int .i64) (.pair (.int .i64) (.unit)))))) (a1 : Den (.int .u64)) :
    run { P := Go.Proofs.Tryd.prog, sums := [(91, ⟨I91, O91, p91, f91⟩)], loops := [], globs := G0 } 9 90 Go.Proofs.Tryd.f90 I90 O90 (a0, a1, ()) = t90 p91 f91 a0 a1 := by kernel_rfl
noncomputable def T90 (x : DenS I90) : Option (DenS O90) := t90 S91.pre S91.F x.1 x.2.1
noncomputable def C90 : Cfg := { P := Go.Proofs.Tryd.prog, sums := [(91, S91)], loops := [], globs := G0 }
noncomputable def S90 : Sum := sumOf I90 O90 T90 (DenS.dflt O90)
theorem S90_sound : Sound Go.Proofs.Tryd.prog G0 90 S90 :=
  fn_sound C90 9 90 Go.Proofs.Tryd.f90 mixedOk (by kernel_rfl) (by kernel_rfl) (by kernel_rfl) ⟨S91_sound, trivial⟩ trivial I90 O90 T90 _ fun x => r90 S91.pre S91.F x.1 x.2.1
/-- vernier/format.Class -/
abbrev I65 : Sig := [(false, .int .i64), (false, .int .u64)]
abbrev O65 : Sig := [(false, .int .i64), (false, .int .i64)]
def t65 (p66 : DenS I66 → Bool) (f66 : DenS I66 → DenS O66) (p90 : DenS I90 → Bool) (f90 : DenS I90 → DenS O90) (p91 : DenS I91 → Bool) (f91 : DenS I91 → DenS O91) (a0 : Den (.int .i64)) (a1 : Den (.int .u64)) : Option (DenS O65) :=
  bif (p66 (a0, (a1, ()))) then
  (bif ((f66 (a0, (a1, ()))).1 != (0 : Int)) then
  (some ((0 : Int), (f66 (a0, (a1, ())))))
  else bif ((decide ((0 : Int) ≤ a0)) && (decide (a0 < ((4 : Nat) : Int)))) then
  (bif (p90 ((Vx.k_rows.getD (Int.toNat a0) ((0 : Int), ((0 : Int), ((0 : Int), ((0 : Int), ()))))), (a1, ()))) then
  (bif (p91 ((Go.IntKind.wrap Go.IntKind.i64 ((Vx.k_rows.getD (Int.toNat a0) ((0 : Int), ((0 : Int), ((0 : Int), ((0 : Int), ()))))).1 - (Vx.k_rows.getD (Int.toNat a0) ((0 : Int), ((0 : Int), ((0 : Int), ((0 : Int), ()))))).2.1)), ())) then
  (bif (((f90 ((Vx.k_rows.getD (Int.toNat a0) ((0 : Int), ((0 : Int), ((0 : Int), ((0 : Int), ()))))), (a1, ()))).2.1 == (f91 ((Go.IntKind.wrap Go.IntKind.i64 ((Vx.k_rows.getD (Int.toNat a0) ((0 : Int), ((0 : Int), ((0 : Int), ((0 : Int), ()))))).1 - (Vx.k_rows.getD (Int.toNat a0) ((0 : Int), ((0 : Int), ((0 : Int), ((0 : Int), ()))))).2.1)), ())).1) && ((f90 ((Vx.k_rows.getD (Int.toNat a0) ((0 : Int), ((0 : Int), ((0 : Int), ((0 : Int), ()))))), (a1, ()))).2.2.1 == (0 : Int))) then
  (bif (f90 ((Vx.k_rows.getD (Int.toNat a0) ((0 : Int), ((0 : Int), ((0 : Int), ((0 : Int), ()))))), (a1, ()))).1 then
  (some ((Go.IntKind.wrap Go.IntKind.i64 ((11 : Int) - (9 : Int))), ((0 : Int), ())))
  else some ((9 : Int), ((0 : Int), ())))
  else bif (p91 ((Go.IntKind.wrap Go.IntKind.i64 ((Vx.k_rows.getD (Int.toNat a0) ((0 : Int), ((0 : Int), ((0 : Int), ((0 : Int), ()))))).1 - (Vx.k_rows.getD (Int.toNat a0) ((0 : Int), ((0 : Int), ((0 : Int), ((0 : Int), ()))))).2.1)), ())) then
  (bif ((decide ((0 : Int) ≤ (Go.IntKind.wrap Go.IntKind.i64 ((Vx.k_rows.getD (Int.toNat a0) ((0 : Int), ((0 : Int), ((0 : Int), ((0 : Int), ()))))).2.1 - (2 : Int))))) || (!(decide ((f90 ((Vx.k_rows.getD (Int.toNat a0) ((0 : Int), ((0 : Int), ((0 : Int), ((0 : Int), ()))))), (a1, ()))).2.1 = (f91 ((Go.IntKind.wrap Go.IntKind.i64 ((Vx.k_rows.getD (Int.toNat a0) ((0 : Int), ((0 : Int), ((0 : Int), ((0 : Int), ()))))).1 - (Vx.k_rows.getD (Int.toNat a0) ((0 : Int), ((0 : Int), ((0 : Int), ((0 : Int), ()))))).2.1)), ())).1)))) then
  (bif (((f90 ((Vx.k_rows.getD (Int.toNat a0) ((0 : Int), ((0 : Int), ((0 : Int), ((0 : Int), ()))))), (a1, ()))).2.1 == (f91 ((Go.IntKind.wrap Go.IntKind.i64 ((Vx.k_rows.getD (Int.toNat a0) ((0 : Int), ((0 : Int), ((0 : Int), ((0 : Int), ()))))).1 - (Vx.k_rows.getD (Int.toNat a0) ((0 : Int), ((0 : Int), ((0 : Int), ((0 : Int), ()))))).2.1)), ())).1) && ((Vx.shrI Go.IntKind.u64 (f90 ((Vx.k_rows.getD (Int.toNat a0) ((0 : Int), ((0 : Int), ((0 : Int), ((0 : Int), ()))))), (a1, ()))).2.2.1 (Go.IntKind.wrap Go.IntKind.i64 ((Vx.k_rows.getD (Int.toNat a0) ((0 : Int), ((0 : Int), ((0 : Int), ((0 : Int), ()))))).2.1 - (2 : Int)))) != (0 : Int))) then
  (some ((1 : Int), ((0 : Int), ())))
  else bif (p91 ((Go.IntKind.wrap Go.IntKind.i64 ((Vx.k_rows.getD (Int.toNat a0) ((0 : Int), ((0 : Int), ((0 : Int), ((0 : Int), ()))))).1 - (Vx.k_rows.getD (Int.toNat a0) ((0 : Int), ((0 : Int), ((0 : Int), ((0 : Int), ()))))).2.1)), ())) then
  (bif ((f90 ((Vx.k_rows.getD (Int.toNat a0) ((0 : Int), ((0 : Int), ((0 : Int), ((0 : Int), ()))))), (a1, ()))).2.1 == (f91 ((Go.IntKind.wrap Go.IntKind.i64 ((Vx.k_rows.getD (Int.toNat a0) ((0 : Int), ((0 : Int), ((0 : Int), ((0 : Int), ()))))).1 - (Vx.k_rows.getD (Int.toNat a0) ((0 : Int), ((0 : Int), ((0 : Int), ((0 : Int), ()))))).2.1)), ())).1) then
  (some ((0 : Int), ((0 : Int), ())))
  else bif (((f90 ((Vx.k_rows.getD (Int.toNat a0) ((0 : Int), ((0 : Int), ((0 : Int), ((0 : Int), ()))))), (a1, ()))).2.1 == (0 : Int)) && ((f90 ((Vx.k_rows.getD (Int.toNat a0) ((0 : Int), ((0 : Int), ((0 : Int), ((0 : Int), ()))))), (a1, ()))).2.2.1 == (0 : Int))) then
  (bif (f90 ((Vx.k_rows.getD (Int.toNat a0) ((0 : Int), ((0 : Int), ((0 : Int), ((0 : Int), ()))))), (a1, ()))).1 then
  (some ((Go.IntKind.wrap Go.IntKind.i64 ((11 : Int) - (6 : Int))), ((0 : Int), ())))
  else some ((6 : Int), ((0 : Int), ())))
  else bif ((f90 ((Vx.k_rows.getD (Int.toNat a0) ((0 : Int), ((0 : Int), ((0 : Int), ((0 : Int), ()))))), (a1, ()))).2.1 == (0 : Int)) then
  (bif (f90 ((Vx.k_rows.getD (Int.toNat a0) ((0 : Int), ((0 : Int), ((0 : Int), ((0 : Int), ()))))), (a1, ()))).1 then
  (some ((Go.IntKind.wrap Go.IntKind.i64 ((11 : Int) - (7 : Int))), ((0 : Int), ())))
  else some ((7 : Int), ((0 : Int), ())))
  else bif (f90 ((Vx.k_rows.getD (Int.toNat a0) ((0 : Int), ((0 : Int), ((0 : Int), ((0 : Int), ()))))), (a1, ()))).1 then
  (some ((Go.IntKind.wrap Go.IntKind.i64 ((11 : Int) - (8 : Int))), ((0 : Int), ())))
  else some ((8 : Int), ((0 : Int), ())))
  else none)
  else none)
  else none)
  else none)
  else none)
  else none)
  else none
theorem r65 (p66 : DenS I66 → Bool) (f66 : DenS I66 → DenS O66) (p90 : DenS I90 → Bool) (f90 : DenS I90 → DenS O90) (p91 : DenS I91 → Bool) (f91 : DenS I91 → DenS O91) (a0 : Den (.int .i64)) (a1 : Den (.int .u64)) :
    run { P := Go.Proofs.Tryd.prog, sums := [(66, ⟨I66, O66, p66, f66⟩), (90, ⟨I90, O90, p90, f90⟩), (91, ⟨I91, O91, p91, f91⟩)], loops := [], globs := G0 } 9 65 Go.Proofs.Tryd.f65 I65 O65 (a0, a1, ()) = t65 p66 f66 p90 f90 p91 f91 a0 a1 := by kernel_rfl
noncomputable def T65 (x : DenS I65) : Option (DenS O65) := t65 S66.pre S66.F S90.pre S90.F S91.pre S91.F x.1 x.2.1
noncomputable def C65 : Cfg := { P := Go.Proofs.Tryd.prog, sums := [(66, S66), (90, S90), (91, S91)], loops := [], globs := G0 }
noncomputable def S65 : Sum := sumOf I65 O65 T65 (DenS.dflt O65)
theorem S65_sound : Sound Go.Proofs.Tryd.prog G0 65 S65 :=
  fn_sound C65 9 65 Go.Proofs.Tryd.f65 mixedOk (by kernel_rfl) (by kernel_rfl) (by kernel_rfl) ⟨S66_sound, ⟨S90_sound, ⟨S91_sound, trivial⟩⟩⟩ trivial I65 O65 T65 _ fun x => r65 S66.pre S66.F S90.pre S90.F S91.pre S91.F x.1 x.2.1
/-- vernier/format.sign -/
abbrev I115 : Sig := [(false, .int .i64)]
abbrev O115 : Sig := [(false, .int .u64)]
def t115 (a0 : Den (.int .i64)) : Option (DenS O115) :=
  bif ((decide ((0 : Int) ≤ a0)) && (decide (a0 < ((4 : Nat) : Int)))) then
  (bif (decide ((0 : Int) ≤ (Go.IntKind.wrap Go.IntKind.i64 ((Vx.k_rows.getD (Int.toNat a0) ((0 : Int), ((0 : Int), ((0 : Int), ((0 : Int), ()))))).1 - (1 : Int))))) then
  (some ((Vx.shlI Go.IntKind.u64 (1 : Int) (Go.IntKind.wrap Go.IntKind.i64 ((Vx.k_rows.getD (Int.toNat a0) ((0 : Int), ((0 : Int), ((0 : Int), ((0 : Int), ()))))).1 - (1 : Int)))), ()))
  else none)
  else none
theorem r115 (a0 : Den (.int .i64)) :
    run { P := Go.Proofs.Tryd.prog, sums := [], loops := [], globs := G0 } 9 115 Go.Proofs.Tryd.f115 I115 O115 (a0, ()) = t115 a0 := by kernel_rfl
noncomputable def T115 (x : DenS I115) : Option (DenS O115) := t115 x.1
noncomputable def C115 : Cfg := { P := Go.Proofs.Tryd.prog, sums := [], loops := [], globs := G0 }
noncomputable def S115 : Sum := sumOf I115 O115 T115 (DenS.dflt O115)
theorem S115_sound : Sound Go.Proofs.Tryd.prog G0 115 S115 :=
  fn_sound C115 9 115 Go.Proofs.Tryd.f115 mixedOk (by kernel_rfl) (by kernel_rfl) (by kernel_rfl) trivial trivial I115 O115 T115 _ fun x => r115 x.1
/-- vernier/format.Abs -/
abbrev I112 : Sig := [(false, .int .i64), (false, .int .u64)]
abbrev O112 : Sig := [(false, .int .u64), (false, .int .i64)]
def t112 (p66 : DenS I66 → Bool) (f66 : DenS I66 → DenS O66) (p115 : DenS I115 → Bool) (f115 : DenS I115 → DenS O115) (a0 : Den (.int .i64)) (a1 : Den (.int .u64)) : Option (DenS O112) :=
  bif (p66 (a0, (a1, ()))) then
  (bif ((f66 (a0, (a1, ()))).1 != (0 : Int)) then
  (some ((0 : Int), (f66 (a0, (a1, ())))))
  else bif (p115 (a0, ())) then
  (some ((Vx.andNotI Go.IntKind.u64 a1 (f115 (a0, ())).1), ((0 : Int), ())))
  else none)
  else none
theorem r112 (p66 : DenS I66 → Bool) (f66 : DenS I66 → DenS O66) (p115 : DenS I115 → Bool) (f115 : DenS I115 → DenS O115) (a0 : Den (.int .i64)) (a1 : Den (.int .u64)) :
    run { P := Go.Proofs.Tryd.prog, sums := [(66, ⟨I66, O66, p66, f66⟩), (115, ⟨I115, O115, p115, f115⟩)], loops := [], globs := G0 } 9 112 Go.Proofs.Tryd.f112 I112 O112 (a0, a1, ()) = t112 p66 f66 p115 f115 a0 a1 := by kernel_rfl
noncomputable def T112 (x : DenS I112) : Option (DenS O112) := t112 S66.pre S66.F S115.pre S115.F x.1 x.2.1
noncomputable def C112 : Cfg := { P := Go.Proofs.Tryd.prog, sums := [(66, S66), (115, S115)], loops := [], globs := G0 }
noncomputable def S112 : Sum := sumOf I112 O112 T112 (DenS.dflt O112)
theorem S112_sound : Sound Go.Proofs.Tryd.prog G0 112 S112 :=
  fn_sound C112 9 112 Go.Proofs.Tryd.f112 mixedOk (by kernel_rfl) (by kernel_rfl) (by kernel_rfl) ⟨S66_sound, ⟨S115_sound, trivial⟩⟩ trivial I112 O112 T112 _ fun x => r112 S66.pre S66.F S115.pre S115.F x.1 x.2.1
/-- vernier/order.open -/
abbrev I82 : Sig := [(false, .int .i64), (false, .int .u64)]
abbrev O82 : Sig := [(true, .pair (.int .i64) (.pair (.int .i64) (.unit))), (false, .int .i64)]
def t82 (p65 : DenS I65 → Bool) (f65 : DenS I65 → DenS O65) (p112 : DenS I112 → Bool) (f112 : DenS I112 → DenS O112) (a0 : Den (.int .i64)) (a1 : Den (.int .u64)) : Option (DenS O82) :=
  bif (p65 (a0, (a1, ()))) then
  (bif ((f65 (a0, (a1, ()))).2.1 != (0 : Int)) then
  (some (((0 : Int), ((0 : Int), ())), (f65 (a0, (a1, ()))).2))
  else bif (p112 (a0, (a1, ()))) then
  (bif ((f112 (a0, (a1, ()))).1 != a1) then
  (some (((f65 (a0, (a1, ()))).1, ((Go.IntKind.wrap Go.IntKind.i64 ((0 : Int) - (Go.IntKind.wrap Go.IntKind.i64 (f112 (a0, (a1, ()))).1))), ())), ((0 : Int), ())))
  else some (((f65 (a0, (a1, ()))).1, ((Go.IntKind.wrap Go.IntKind.i64 (f112 (a0, (a1, ()))).1), ())), ((0 : Int), ())))
  else none)
  else none
theorem r82 (p65 : DenS I65 → Bool) (f65 : DenS I65 → DenS O65) (p112 : DenS I112 → Bool) (f112 : DenS I112 → DenS O112) (a0 : Den (.int .i64)) (a1 : Den (.int .u64)) :
    run { P := Go.Proofs.Tryd.prog, sums := [(65, ⟨I65, O65, p65, f65⟩), (112, ⟨I112, O112, p112, f112⟩)], loops := [], globs := G0 } 9 82 Go.Proofs.Tryd.f82 I82 O82 (a0, a1, ()) = t82 p65 f65 p112 f112 a0 a1 := by kernel_rfl
noncomputable def T82 (x : DenS I82) : Option (DenS O82) := t82 S65.pre S65.F S112.pre S112.F x.1 x.2.1
noncomputable def C82 : Cfg := { P := Go.Proofs.Tryd.prog, sums := [(65, S65), (112, S112)], loops := [], globs := G0 }
noncomputable def S82 : Sum := sumOf I82 O82 T82 (DenS.dflt O82)
theorem S82_sound : Sound Go.Proofs.Tryd.prog G0 82 S82 :=
  fn_sound C82 9 82 Go.Proofs.Tryd.f82 mixedOk (by kernel_rfl) (by kernel_rfl) (by kernel_rfl) ⟨S65_sound, ⟨S112_sound, trivial⟩⟩ trivial I82 O82 T82 _ fun x => r82 S65.pre S65.F S112.pre S112.F x.1 x.2.1
/-- vernier/order.both -/
abbrev I52 : Sig := [(false, .int .i64), (false, .int .u64), (false, .int .u64)]
abbrev O52 : Sig := [(true, .pair (.int .i64) (.pair (.int .i64) (.unit))), (true, .pair (.int .i64) (.pair (.int .i64) (.unit))), (false, .int .i64)]
def t52 (p82 : DenS I82 → Bool) (f82 : DenS I82 → DenS O82) (a0 : Den (.int .i64)) (a1 : Den (.int .u64)) (a2 : Den (.int .u64)) : Option (DenS O52) :=
  bif (p82 (a0, (a1, ()))) then
  (bif ((f82 (a0, (a1, ()))).2.1 != (0 : Int)) then
  (some ((f82 (a0, (a1, ()))).1, (((0 : Int), ((0 : Int), ())), (f82 (a0, (a1, ()))).2)))
  else bif (p82 (a0, (a2, ()))) then
  (some ((f82 (a0, (a1, ()))).1, (f82 (a0, (a2, ())))))
  else none)
  else none
theorem r52 (p82 : DenS I82 → Bool) (f82 : DenS I82 → DenS O82) (a0 : Den (.int .i64)) (a1 : Den (.int .u64)) (a2 : Den (.int .u64)) :
    run { P := Go.Proofs.Tryd.prog, sums := [(82, ⟨I82, O82, p82, f82⟩)], loops := [], globs := G0 } 9 52 Go.Proofs.Tryd.f52 I52 O52 (a0, a1, a2, ()) = t52 p82 f82 a0 a1 a2 := by kernel_rfl
noncomputable def T52 (x : DenS I52) : Option (DenS O52) := t52 S82.pre S82.F x.1 x.2.1 x.2.2.1
noncomputable def C52 : Cfg := { P := Go.Proofs.Tryd.prog, sums := [(82, S82)], loops := [], globs := G0 }
noncomputable def S52 : Sum := sumOf I52 O52 T52 (DenS.dflt O52)
theorem S52_sound : Sound Go.Proofs.Tryd.prog G0 52 S52 :=
  fn_sound C52 9 52 Go.Proofs.Tryd.f52 mixedOk (by kernel_rfl) (by kernel_rfl) (by kernel_rfl) ⟨S82_sound, trivial⟩ trivial I52 O52 T52 _ fun x => r52 S82.pre S82.F x.1 x.2.1 x.2.2.1
/-- (vernier/order.operand).nan -/
abbrev I53 : Sig := [(true, .pair (.int .i64) (.pair (.int .i64) (.unit)))]
abbrev O53 : Sig := [(false, .bool)]
def t53 (a0 : Den (.pair (.int .i64) (.pair (.int .i64) (.unit)))) : Option (DenS O53) :=
  some (((a0.1 == (1 : Int)) || (a0.1 == (0 : Int))), ())
theorem r53 (a0 : Den (.pair (.int .i64) (.pair (.int .i64) (.unit)))) :
    run { P := Go.Proofs.Tryd.prog, sums := [], loops := [], globs := G0 } 9 53 Go.Proofs.Tryd.f53 I53 O53 (a0, ()) = t53 a0 := by kernel_rfl
noncomputable def T53 (x : DenS I53) : Option (DenS O53) := t53 x.1
noncomputable def C53 : Cfg := { P := Go.Proofs.Tryd.prog, sums := [], loops := [], globs := G0 }
noncomputable def S53 : Sum := sumOf I53 O53 T53 (DenS.dflt O53)
theorem S53_sound : Sound Go.Proofs.Tryd.prog G0 53 S53 :=
  fn_sound C53 9 53 Go.Proofs.Tryd.f53 mixedOk (by kernel_rfl) (by kernel_rfl) (by kernel_rfl) trivial trivial I53 O53 T53 _ fun x => r53 x.1
/-- vernier/order.loud -/
abbrev I54 : Sig := [(true, .pair (.int .i64) (.pair (.int .i64) (.unit))), (true, .pair (.int .i64) (.pair (.int .i64) (.unit)))]
abbrev O54 : Sig := [(false, .int .i64)]
def t54 (a0 : Den (.pair (.int .i64) (.pair (.int .i64) (.unit)))) (a1 : Den (.pair (.int .i64) (.pair (.int .i64) (.unit)))) : Option (DenS O54) :=
  bif ((a0.1 == (0 : Int)) || (a1.1 == (0 : Int))) then
  (some ((1 : Int), ()))
  else some ((0 : Int), ())
theorem r54 (a0 : Den (.pair (.int .i64) (.pair (.int .i64) (.unit)))) (a1 : Den (.pair (.int .i64) (.pair (.int .i64) (.unit)))) :
    run { P := Go.Proofs.Tryd.prog, sums := [], loops := [], globs := G0 } 9 54 Go.Proofs.Tryd.f54 I54 O54 (a0, a1, ()) = t54 a0 a1 := by kernel_rfl
noncomputable def T54 (x : DenS I54) : Option (DenS O54) := t54 x.1 x.2.1
noncomputable def C54 : Cfg := { P := Go.Proofs.Tryd.prog, sums := [], loops := [], globs := G0 }
noncomputable def S54 : Sum := sumOf I54 O54 T54 (DenS.dflt O54)
theorem S54_sound : Sound Go.Proofs.Tryd.prog G0 54 S54 :=
  fn_sound C54 9 54 Go.Proofs.Tryd.f54 mixedOk (by kernel_rfl) (by kernel_rfl) (by kernel_rfl) trivial trivial I54 O54 T54 _ fun x => r54 x.1 x.2.1
/-- vernier/order.Compare -/
abbrev I14 : Sig := [(false, .int .i64), (false, .int .u64), (false, .int .u64), (false, .bool)]
abbrev O14 : Sig := [(false, .int .i64), (false, .int .i64), (false, .int .i64)]
def t14 (p52 : DenS I52 → Bool) (f52 : DenS I52 → DenS O52) (p53 : DenS I53 → Bool) (f53 : DenS I53 → DenS O53) (p54 : DenS I54 → Bool) (f54 : DenS I54 → DenS O54) (a0 : Den (.int .i64)) (a1 : Den (.int .u64)) (a2 : Den (.int .u64)) (a3 : Den (.bool)) : Option (DenS O14) :=
  bif (p52 (a0, (a1, (a2, ())))) then
  (bif ((f52 (a0, (a1, (a2, ())))).2.2.1 != (0 : Int)) then
  (some ((0 : Int), ((0 : Int), (f52 (a0, (a1, (a2, ())))).2.2)))
  else bif (p53 ((f52 (a0, (a1, (a2, ())))).1, ())) then
  (bif ((p53 ((f52 (a0, (a1, (a2, ())))).2.1, ())) || (!(bif (f53 ((f52 (a0, (a1, (a2, ())))).1, ())).1 then false else true))) then
  (bif ((f53 ((f52 (a0, (a1, (a2, ())))).1, ())).1 || (f53 ((f52 (a0, (a1, (a2, ())))).2.1, ())).1) then
  (bif (p54 ((f52 (a0, (a1, (a2, ())))).1, ((f52 (a0, (a1, (a2, ())))).2.1, ()))) then
  (bif a3 then
  (some ((3 : Int), ((1 : Int), ((0 : Int), ()))))
  else some ((3 : Int), ((f54 ((f52 (a0, (a1, (a2, ())))).1, ((f52 (a0, (a1, (a2, ())))).2.1, ()))).1, ((0 : Int), ()))))
  else none)
  else bif (decide ((f52 (a0, (a1, (a2, ())))).1.2.1 < (f52 (a0, (a1, (a2, ())))).2.1.2.1)) then
  (some ((0 : Int), ((0 : Int), ((0 : Int), ()))))
  else bif (decide ((f52 (a0, (a1, (a2, ())))).1.2.1 > (f52 (a0, (a1, (a2, ())))).2.1.2.1)) then
  (some ((2 : Int), ((0 : Int), ((0 : Int), ()))))
  else some ((1 : Int), ((0 : Int), ((0 : Int), ()))))
  else none)
  else none)
  else none
theorem r14 (p52 : DenS I52 → Bool) (f52 : DenS I52 → DenS O52) (p53 : DenS I53 → Bool) (f53 : DenS I53 → DenS O53) (p54 : DenS I54 → Bool) (f54 : DenS I54 → DenS O54) (a0 : Den (.int .i64)) (a1 : Den (.int .u64)) (a2 : Den (.int .u64)) (a3 : Den (.bool)) :
    run { P := Go.Proofs.Tryd.prog, sums := [(52, ⟨I52, O52, p52, f52⟩), (53, ⟨I53, O53, p53, f53⟩), (54, ⟨I54, O54, p54, f54⟩)], loops := [], globs := G0 } 9 14 Go.Proofs.Tryd.f14 I14 O14 (a0, a1, a2, a3, ()) = t14 p52 f52 p53 f53 p54 f54 a0 a1 a2 a3 := by kernel_rfl
noncomputable def T14 (x : DenS I14) : Option (DenS O14) := t14 S52.pre S52.F S53.pre S53.F S54.pre S54.F x.1 x.2.1 x.2.2.1 x.2.2.2.1
noncomputable def C14 : Cfg := { P := Go.Proofs.Tryd.prog, sums := [(52, S52), (53, S53), (54, S54)], loops := [], globs := G0 }
noncomputable def S14 : Sum := sumOf I14 O14 T14 (DenS.dflt O14)
theorem S14_sound : Sound Go.Proofs.Tryd.prog G0 14 S14 :=
  fn_sound C14 9 14 Go.Proofs.Tryd.f14 mixedOk (by kernel_rfl) (by kernel_rfl) (by kernel_rfl) ⟨S52_sound, ⟨S53_sound, ⟨S54_sound, trivial⟩⟩⟩ trivial I14 O14 T14 _ fun x => r14 S52.pre S52.F S53.pre S53.F S54.pre S54.F x.1 x.2.1 x.2.2.1 x.2.2.2.1
/-- vernier/vernierref04.Row -/
abbrev I131 : Sig := [(false, .int .i64)]
abbrev O131 : Sig := [(true, .pair (.int .i64) (.pair (.int .i64) (.pair (.int .i64) (.pair (.int .i64) (.unit))))), (false, .bool)]
def t131 (a0 : Den (.int .i64)) : Option (DenS O131) :=
  bif (a0 == (0 : Int)) then
  (some (((16 : Int), ((11 : Int), ((-(14 : Int)), ((15 : Int), ())))), (true, ())))
  else bif (a0 == (1 : Int)) then
  (some (((16 : Int), ((8 : Int), ((-(126 : Int)), ((127 : Int), ())))), (true, ())))
  else bif (a0 == (2 : Int)) then
  (some (((32 : Int), ((24 : Int), ((-(126 : Int)), ((127 : Int), ())))), (true, ())))
  else bif (a0 == (3 : Int)) then
  (some (((64 : Int), ((53 : Int), ((-(1022 : Int)), ((1023 : Int), ())))), (true, ())))
  else some (((0 : Int), ((0 : Int), ((0 : Int), ((0 : Int), ())))), (false, ()))
theorem r131 (a0 : Den (.int .i64)) :
    run { P := Go.Proofs.Tryd.prog, sums := [], loops := [], globs := G0 } 9 131 Go.Proofs.Tryd.f131 I131 O131 (a0, ()) = t131 a0 := by kernel_rfl
noncomputable def T131 (x : DenS I131) : Option (DenS O131) := t131 x.1
noncomputable def C131 : Cfg := { P := Go.Proofs.Tryd.prog, sums := [], loops := [], globs := G0 }
noncomputable def S131 : Sum := sumOf I131 O131 T131 (DenS.dflt O131)
theorem S131_sound : Sound Go.Proofs.Tryd.prog G0 131 S131 :=
  fn_sound C131 9 131 Go.Proofs.Tryd.f131 mixedOk (by kernel_rfl) (by kernel_rfl) (by kernel_rfl) trivial trivial I131 O131 T131 _ fun x => r131 x.1
/-- vernier/vernierref04.Check -/
abbrev I108 : Sig := [(false, .int .i64), (false, .int .u64)]
abbrev O108 : Sig := [(false, .int .i64)]
def t108 (p131 : DenS I131 → Bool) (f131 : DenS I131 → DenS O131) (a0 : Den (.int .i64)) (a1 : Den (.int .u64)) : Option (DenS O108) :=
  bif (p131 (a0, ())) then
  (bif (!(f131 (a0, ())).2.1) then
  (some ((2 : Int), ()))
  else bif ((decide ((f131 (a0, ())).1.1 < (64 : Int))) && ((Vx.shrI Go.IntKind.u64 a1 (Go.IntKind.wrap Go.IntKind.u64 (f131 (a0, ())).1.1)) != (0 : Int))) then
  (some ((4 : Int), ()))
  else some ((0 : Int), ()))
  else none
theorem r108 (p131 : DenS I131 → Bool) (f131 : DenS I131 → DenS O131) (a0 : Den (.int .i64)) (a1 : Den (.int .u64)) :
    run { P := Go.Proofs.Tryd.prog, sums := [(131, ⟨I131, O131, p131, f131⟩)], loops := [], globs := G0 } 9 108 Go.Proofs.Tryd.f108 I108 O108 (a0, a1, ()) = t108 p131 f131 a0 a1 := by kernel_rfl
noncomputable def T108 (x : DenS I108) : Option (DenS O108) := t108 S131.pre S131.F x.1 x.2.1
noncomputable def C108 : Cfg := { P := Go.Proofs.Tryd.prog, sums := [(131, S131)], loops := [], globs := G0 }
noncomputable def S108 : Sum := sumOf I108 O108 T108 (DenS.dflt O108)
theorem S108_sound : Sound Go.Proofs.Tryd.prog G0 108 S108 :=
  fn_sound C108 9 108 Go.Proofs.Tryd.f108 mixedOk (by kernel_rfl) (by kernel_rfl) (by kernel_rfl) ⟨S131_sound, trivial⟩ trivial I108 O108 T108 _ fun x => r108 S131.pre S131.F x.1 x.2.1
/-- vernier/vernierref04.Parts -/
abbrev I113 : Sig := [(false, .int .i64), (false, .int .u64)]
abbrev O113 : Sig := [(false, .int .u64), (false, .int .u64), (false, .int .u64), (false, .int .u64)]
def t113 (p131 : DenS I131 → Bool) (f131 : DenS I131 → DenS O131) (a0 : Den (.int .i64)) (a1 : Den (.int .u64)) : Option (DenS O113) :=
  bif (p131 (a0, ())) then
  (bif ((Vx.shlI Go.IntKind.u64 (1 : Int) (Go.IntKind.wrap Go.IntKind.u64 (Go.IntKind.wrap Go.IntKind.i64 ((f131 (a0, ())).1.2.1 - (1 : Int))))) != (0 : Int)) then
  (some ((Vx.andI Go.IntKind.u64 (Vx.shrI Go.IntKind.u64 a1 (Go.IntKind.wrap Go.IntKind.u64 (Go.IntKind.wrap Go.IntKind.i64 ((f131 (a0, ())).1.1 - (1 : Int))))) (1 : Int)), ((Vx.andI Go.IntKind.u64 (Vx.shrI Go.IntKind.u64 a1 (Go.IntKind.wrap Go.IntKind.u64 (Go.IntKind.wrap Go.IntKind.i64 ((f131 (a0, ())).1.2.1 - (1 : Int))))) (Go.IntKind.wrap Go.IntKind.u64 (Go.IntKind.wrap Go.IntKind.i64 ((Go.IntKind.wrap Go.IntKind.i64 ((2 : Int) * (f131 (a0, ())).1.2.2.2.1)) + (1 : Int))))), ((Int.tmod a1 (Vx.shlI Go.IntKind.u64 (1 : Int) (Go.IntKind.wrap Go.IntKind.u64 (Go.IntKind.wrap Go.IntKind.i64 ((f131 (a0, ())).1.2.1 - (1 : Int)))))), ((Go.IntKind.wrap Go.IntKind.u64 (Go.IntKind.wrap Go.IntKind.i64 ((Go.IntKind.wrap Go.IntKind.i64 ((2 : Int) * (f131 (a0, ())).1.2.2.2.1)) + (1 : Int)))), ())))))
  else none)
  else none
theorem r113 (p131 : DenS I131 → Bool) (f131 : DenS I131 → DenS O131) (a0 : Den (.int .i64)) (a1 : Den (.int .u64)) :
    run { P := Go.Proofs.Tryd.prog, sums := [(131, ⟨I131, O131, p131, f131⟩)], loops := [], globs := G0 } 9 113 Go.Proofs.Tryd.f113 I113 O113 (a0, a1, ()) = t113 p131 f131 a0 a1 := by kernel_rfl
noncomputable def T113 (x : DenS I113) : Option (DenS O113) := t113 S131.pre S131.F x.1 x.2.1
noncomputable def C113 : Cfg := { P := Go.Proofs.Tryd.prog, sums := [(131, S131)], loops := [], globs := G0 }
noncomputable def S113 : Sum := sumOf I113 O113 T113 (DenS.dflt O113)
theorem S113_sound : Sound Go.Proofs.Tryd.prog G0 113 S113 :=
  fn_sound C113 9 113 Go.Proofs.Tryd.f113 mixedOk (by kernel_rfl) (by kernel_rfl) (by kernel_rfl) ⟨S131_sound, trivial⟩ trivial I113 O113 T113 _ fun x => r113 S131.pre S131.F x.1 x.2.1
/-- vernier/vernierref04.IsNaN -/
abbrev I109 : Sig := [(false, .int .i64), (false, .int .u64)]
abbrev O109 : Sig := [(false, .bool)]
def t109 (p113 : DenS I113 → Bool) (f113 : DenS I113 → DenS O113) (a0 : Den (.int .i64)) (a1 : Den (.int .u64)) : Option (DenS O109) :=
  bif (p113 (a0, (a1, ()))) then
  (some ((((f113 (a0, (a1, ()))).2.1 == (f113 (a0, (a1, ()))).2.2.2.1) && ((f113 (a0, (a1, ()))).2.2.1 != (0 : Int))), ()))
  else none
theorem r109 (p113 : DenS I113 → Bool) (f113 : DenS I113 → DenS O113) (a0 : Den (.int .i64)) (a1 : Den (.int .u64)) :
    run { P := Go.Proofs.Tryd.prog, sums := [(113, ⟨I113, O113, p113, f113⟩)], loops := [], globs := G0 } 9 109 Go.Proofs.Tryd.f109 I109 O109 (a0, a1, ()) = t109 p113 f113 a0 a1 := by kernel_rfl
noncomputable def T109 (x : DenS I109) : Option (DenS O109) := t109 S113.pre S113.F x.1 x.2.1
noncomputable def C109 : Cfg := { P := Go.Proofs.Tryd.prog, sums := [(113, S113)], loops := [], globs := G0 }
noncomputable def S109 : Sum := sumOf I109 O109 T109 (DenS.dflt O109)
theorem S109_sound : Sound Go.Proofs.Tryd.prog G0 109 S109 :=
  fn_sound C109 9 109 Go.Proofs.Tryd.f109 mixedOk (by kernel_rfl) (by kernel_rfl) (by kernel_rfl) ⟨S113_sound, trivial⟩ trivial I109 O109 T109 _ fun x => r109 S113.pre S113.F x.1 x.2.1
/-- vernier/vernierref04.Signals -/
abbrev I110 : Sig := [(false, .int .i64), (false, .int .u64)]
abbrev O110 : Sig := [(false, .bool)]
def t110 (p131 : DenS I131 → Bool) (f131 : DenS I131 → DenS O131) (p113 : DenS I113 → Bool) (f113 : DenS I113 → DenS O113) (p109 : DenS I109 → Bool) (f109 : DenS I109 → DenS O109) (a0 : Den (.int .i64)) (a1 : Den (.int .u64)) : Option (DenS O110) :=
  bif (p131 (a0, ())) then
  (bif (p113 (a0, (a1, ()))) then
  (bif (p109 (a0, (a1, ()))) then
  (some (((f109 (a0, (a1, ()))).1 && ((Vx.shrI Go.IntKind.u64 (f113 (a0, (a1, ()))).2.2.1 (Go.IntKind.wrap Go.IntKind.u64 (Go.IntKind.wrap Go.IntKind.i64 ((f131 (a0, ())).1.2.1 - (2 : Int))))) == (0 : Int))), ()))
  else none)
  else none)
  else none
theorem r110 (p131 : DenS I131 → Bool) (f131 : DenS I131 → DenS O131) (p113 : DenS I113 → Bool) (f113 : DenS I113 → DenS O113) (p109 : DenS I109 → Bool) (f109 : DenS I109 → DenS O109) (a0 : Den (.int .i64)) (a1 : Den (.int .u64)) :
    run { P := Go.Proofs.Tryd.prog, sums := [(131, ⟨I131, O131, p131, f131⟩), (113, ⟨I113, O113, p113, f113⟩), (109, ⟨I109, O109, p109, f109⟩)], loops := [], globs := G0 } 9 110 Go.Proofs.Tryd.f110 I110 O110 (a0, a1, ()) = t110 p131 f131 p113 f113 p109 f109 a0 a1 := by kernel_rfl
noncomputable def T110 (x : DenS I110) : Option (DenS O110) := t110 S131.pre S131.F S113.pre S113.F S109.pre S109.F x.1 x.2.1
noncomputable def C110 : Cfg := { P := Go.Proofs.Tryd.prog, sums := [(131, S131), (113, S113), (109, S109)], loops := [], globs := G0 }
noncomputable def S110 : Sum := sumOf I110 O110 T110 (DenS.dflt O110)
theorem S110_sound : Sound Go.Proofs.Tryd.prog G0 110 S110 :=
  fn_sound C110 9 110 Go.Proofs.Tryd.f110 mixedOk (by kernel_rfl) (by kernel_rfl) (by kernel_rfl) ⟨S131_sound, ⟨S113_sound, ⟨S109_sound, trivial⟩⟩⟩ trivial I110 O110 T110 _ fun x => r110 S131.pre S131.F S113.pre S113.F S109.pre S109.F x.1 x.2.1
/-- vernier/vernierref07.NaNs -/
abbrev I56 : Sig := [(false, .int .i64), (false, .slice (.int .u64))]
abbrev O56 : Sig := [(false, .bool), (false, .int .i64)]
abbrev P56_3 : Pat := ⟨28, [(11, .one (.v .i64)), (10, .one (.sl (.int .u64))), (0, .one (.v .i64)), (12, .one (.v .i64)), (6, .one (.bool)), (7, .one (.v .i64))], []⟩
abbrev A56_3 : List (Nat × Shape) := []
abbrev X56_3 : List (Nat × Pat) := [(0, ⟨28, [(6, .one (.bool)), (7, .one (.v .i64))], []⟩)]
abbrev Q56_3 : Option Pat := none
def h56_3 (p109 : DenS I109 → Bool) (f109 : DenS I109 → DenS O109) (p110 : DenS I110 → Bool) (f110 : DenS I110 → DenS O110) {R : Type} (L : Pat.D P56_3 → Option R) (e : OutT X56_3 Q56_3 → Option R) (x : Pat.D P56_3) : Option R :=
  bif (decide (x.1.2.2.2.1 < x.1.1)) then
  (bif ((decide ((0 : Int) ≤ x.1.2.2.2.1)) && (decide (x.1.2.2.2.1 < (x.1.2.1.length : Int)))) then
  (bif ((p109 (x.1.2.2.1, ((x.1.2.1.getD (Int.toNat x.1.2.2.2.1) (0 : Int)), ()))) || (!(bif x.1.2.2.2.2.1 then false else true))) then
  (bif (p110 (x.1.2.2.1, ((x.1.2.1.getD (Int.toNat x.1.2.2.2.1) (0 : Int)), ()))) then
  (bif (f110 (x.1.2.2.1, ((x.1.2.1.getD (Int.toNat x.1.2.2.2.1) (0 : Int)), ()))).1 then
  ((L ((x.1.1, (x.1.2.1, (x.1.2.2.1, ((Go.IntKind.wrap Go.IntKind.i64 (x.1.2.2.2.1 + (1 : Int))), ((x.1.2.2.2.2.1 || (f109 (x.1.2.2.1, ((x.1.2.1.getD (Int.toNat x.1.2.2.2.1) (0 : Int)), ()))).1), ((1 : Int), ())))))), ())))
  else (L ((x.1.1, (x.1.2.1, (x.1.2.2.1, ((Go.IntKind.wrap Go.IntKind.i64 (x.1.2.2.2.1 + (1 : Int))), ((x.1.2.2.2.2.1 || (f109 (x.1.2.2.1, ((x.1.2.1.getD (Int.toNat x.1.2.2.2.1) (0 : Int)), ()))).1), x.1.2.2.2.2.2))))), ())))
  else none)
  else none)
  else none)
  else (e (.inl (x.1.2.2.2.2, ())))
theorem s56_3 (p109 : DenS I109 → Bool) (f109 : DenS I109 → DenS O109) (p110 : DenS I110 → Bool) (f110 : DenS I110 → DenS O110) (w56_3 : Pat.D P56_3 → Option (OutT X56_3 Q56_3)) (d : Nat) (R : Type) (L : Pat.D P56_3 → Option R) (e : OutT X56_3 Q56_3 → Option R) (x : Pat.D P56_3) :
    lStep { P := Go.Proofs.Tryd.prog, sums := [(109, ⟨I109, O109, p109, f109⟩), (110, ⟨I110, O110, p110, f110⟩)], loops := [(56, 3, LoopSpec.of P56_3 A56_3 X56_3 Q56_3 w56_3)], globs := G0 } (d + 2) 56 (bodyOf Go.Proofs.Tryd.f56 3) P56_3 A56_3 X56_3 Q56_3 (R := R) L e x = h56_3 p109 f109 p110 f110 L e x := by kernel_rfl
theorem m56_3 (p109 : DenS I109 → Bool) (f109 : DenS I109 → DenS O109) (p110 : DenS I110 → Bool) (f110 : DenS I110 → DenS O110) : Par fun L e x => h56_3 p109 f109 p110 f110 L e x := by
  intro A B rel L L' e e' h0 hL he x
  unfold h56_3
  repeat' (first | exact h0 | exact hL _ | exact he _ | apply rel_cond | (apply rel_obind h0; intro _) | (apply rel_obind2 <;> intro _))
def t56 (p109 : DenS I109 → Bool) (f109 : DenS I109 → DenS O109) (p110 : DenS I110 → Bool) (f110 : DenS I110 → DenS O110) (w56_3 : Pat.D P56_3 → Option (OutT X56_3 Q56_3)) (a0 : Den (.int .i64)) (a1 : Den (.slice (.int .u64))) : Option (DenS O56) :=
  Vx.obind (w56_3 (((a1.length : Int), (a1, (a0, ((0 : Int), (false, ((0 : Int), ())))))), ())) fun y0 =>
  Vx.obind2 y0 (fun y1 =>
  some y1.1) (fun z1 =>
  none)
theorem r56 (p109 : DenS I109 → Bool) (f109 : DenS I109 → DenS O109) (p110 : DenS I110 → Bool) (f110 : DenS I110 → DenS O110) (w56_3 : Pat.D P56_3 → Option (OutT X56_3 Q56_3)) (a0 : Den (.int .i64)) (a1 : Den (.slice (.int .u64))) :
    run { P := Go.Proofs.Tryd.prog, sums := [(109, ⟨I109, O109, p109, f109⟩), (110, ⟨I110, O110, p110, f110⟩)], loops := [(56, 3, LoopSpec.of P56_3 A56_3 X56_3 Q56_3 w56_3)], globs := G0 } 9 56 Go.Proofs.Tryd.f56 I56 O56 (a0, a1, ()) = t56 p109 f109 p110 f110 w56_3 a0 a1 := by kernel_rfl
noncomputable def W56_3 : P56_3.D → Option (OutT X56_3 Q56_3) := lfix fun L => h56_3 S109.pre S109.F S110.pre S110.F L some
noncomputable def T56 (x : DenS I56) : Option (DenS O56) := t56 S109.pre S109.F S110.pre S110.F W56_3 x.1 x.2.1
noncomputable def C56 : Cfg := { P := Go.Proofs.Tryd.prog, sums := [(109, S109), (110, S110)], loops := [(56, 3, LoopSpec.of P56_3 A56_3 X56_3 Q56_3 W56_3)], globs := G0 }
noncomputable def S56 : Sum := sumOf I56 O56 T56 (DenS.dflt O56)
theorem S56_sound : Sound Go.Proofs.Tryd.prog G0 56 S56 :=
  fn_sound C56 9 56 Go.Proofs.Tryd.f56 mixedOk (by kernel_rfl) (by kernel_rfl) (by kernel_rfl) ⟨S109_sound, ⟨S110_sound, trivial⟩⟩ ⟨rfl, fun d => loopOk_of (fun L e x => h56_3 S109.pre S109.F S110.pre S110.F L e x) (m56_3 S109.pre S109.F S110.pre S110.F) (fun R L e x => s56_3 S109.pre S109.F S110.pre S110.F W56_3 d R L e x), trivial⟩ I56 O56 T56 _ fun x => r56 S109.pre S109.F S110.pre S110.F W56_3 x.1 x.2.1
/-- vernier/vernierref04.Sign -/
abbrev I59 : Sig := [(false, .int .i64), (false, .int .u64)]
abbrev O59 : Sig := [(false, .int .u64)]
def t59 (p113 : DenS I113 → Bool) (f113 : DenS I113 → DenS O113) (a0 : Den (.int .i64)) (a1 : Den (.int .u64)) : Option (DenS O59) :=
  bif (p113 (a0, (a1, ()))) then
  (some ((f113 (a0, (a1, ()))).1, ()))
  else none
theorem r59 (p113 : DenS I113 → Bool) (f113 : DenS I113 → DenS O113) (a0 : Den (.int .i64)) (a1 : Den (.int .u64)) :
    run { P := Go.Proofs.Tryd.prog, sums := [(113, ⟨I113, O113, p113, f113⟩)], loops := [], globs := G0 } 9 59 Go.Proofs.Tryd.f59 I59 O59 (a0, a1, ()) = t59 p113 f113 a0 a1 := by kernel_rfl
noncomputable def T59 (x : DenS I59) : Option (DenS O59) := t59 S113.pre S113.F x.1 x.2.1
noncomputable def C59 : Cfg := { P := Go.Proofs.Tryd.prog, sums := [(113, S113)], loops := [], globs := G0 }
noncomputable def S59 : Sum := sumOf I59 O59 T59 (DenS.dflt O59)
theorem S59_sound : Sound Go.Proofs.Tryd.prog G0 59 S59 :=
  fn_sound C59 9 59 Go.Proofs.Tryd.f59 mixedOk (by kernel_rfl) (by kernel_rfl) (by kernel_rfl) ⟨S113_sound, trivial⟩ trivial I59 O59 T59 _ fun x => r59 S113.pre S113.F x.1 x.2.1
/-- vernier/vernierref13.Compare -/
abbrev I15 : Sig := [(false, .int .i64), (false, .int .u64), (false, .int .u64), (false, .bool)]
abbrev O15 : Sig := [(false, .int .i64), (false, .int .i64), (false, .int .i64)]
/-- vernier/format.none -/
abbrev I116 : Sig := [(true, .pair (.int .i64) (.pair (.int .i64) (.pair (.int .i64) (.pair (.int .i64) (.unit)))))]
abbrev O116 : Sig := [(false, .int .u64)]
def t116 (a0 : Den (.pair (.int .i64) (.pair (.int .i64) (.pair (.int .i64) (.pair (.int .i64) (.unit)))))) : Option (DenS O116) :=
  some ((0 : Int), ())
theorem r116 (a0 : Den (.pair (.int .i64) (.pair (.int .i64) (.pair (.int .i64) (.pair (.int .i64) (.unit)))))) :
    run { P := Go.Proofs.Tryd.prog, sums := [], loops := [], globs := G0 } 9 116 Go.Proofs.Tryd.f116 I116 O116 (a0, ()) = t116 a0 := by kernel_rfl
noncomputable def T116 (x : DenS I116) : Option (DenS O116) := t116 x.1
noncomputable def C116 : Cfg := { P := Go.Proofs.Tryd.prog, sums := [], loops := [], globs := G0 }
noncomputable def S116 : Sum := sumOf I116 O116 T116 (DenS.dflt O116)
theorem S116_sound : Sound Go.Proofs.Tryd.prog G0 116 S116 :=
  fn_sound C116 9 116 Go.Proofs.Tryd.f116 mixedOk (by kernel_rfl) (by kernel_rfl) (by kernel_rfl) trivial trivial I116 O116 T116 _ fun x => r116 x.1
/-- vernier/format.top -/
abbrev I117 : Sig := [(true, .pair (.int .i64) (.pair (.int .i64) (.pair (.int .i64) (.pair (.int .i64) (.unit)))))]
abbrev O117 : Sig := [(false, .int .u64)]
def t117 (a0 : Den (.pair (.int .i64) (.pair (.int .i64) (.pair (.int .i64) (.pair (.int .i64) (.unit)))))) : Option (DenS O117) :=
  bif (decide ((0 : Int) ≤ (Go.IntKind.wrap Go.IntKind.i64 (a0.2.1 - (2 : Int))))) then
  (some ((Vx.shlI Go.IntKind.u64 (1 : Int) (Go.IntKind.wrap Go.IntKind.i64 (a0.2.1 - (2 : Int)))), ()))
  else none
theorem r117 (a0 : Den (.pair (.int .i64) (.pair (.int .i64) (.pair (.int .i64) (.pair (.int .i64) (.unit)))))) :
    run { P := Go.Proofs.Tryd.prog, sums := [], loops := [], globs := G0 } 9 117 Go.Proofs.Tryd.f117 I117 O117 (a0, ()) = t117 a0 := by kernel_rfl
noncomputable def T117 (x : DenS I117) : Option (DenS O117) := t117 x.1
noncomputable def C117 : Cfg := { P := Go.Proofs.Tryd.prog, sums := [], loops := [], globs := G0 }
noncomputable def S117 : Sum := sumOf I117 O117 T117 (DenS.dflt O117)
theorem S117_sound : Sound Go.Proofs.Tryd.prog G0 117 S117 :=
  fn_sound C117 9 117 Go.Proofs.Tryd.f117 mixedOk (by kernel_rfl) (by kernel_rfl) (by kernel_rfl) trivial trivial I117 O117 T117 _ fun x => r117 x.1
/-- vernier/format.join -/
abbrev I140 : Sig := [(true, .pair (.int .i64) (.pair (.int .i64) (.pair (.int .i64) (.pair (.int .i64) (.unit))))), (false, .bool), (false, .int .u64), (false, .int .u64)]
abbrev O140 : Sig := [(false, .int .u64)]
def t140 (a0 : Den (.pair (.int .i64) (.pair (.int .i64) (.pair (.int .i64) (.pair (.int .i64) (.unit)))))) (a1 : Den (.bool)) (a2 : Den (.int .u64)) (a3 : Den (.int .u64)) : Option (DenS O140) :=
  bif (decide ((0 : Int) ≤ (Go.IntKind.wrap Go.IntKind.i64 (a0.2.1 - (1 : Int))))) then
  (bif a1 then
  (bif (decide ((0 : Int) ≤ (Go.IntKind.wrap Go.IntKind.i64 (a0.1 - (1 : Int))))) then
  (some ((Vx.orI Go.IntKind.u64 (Vx.orI Go.IntKind.u64 (Vx.shlI Go.IntKind.u64 a2 (Go.IntKind.wrap Go.IntKind.i64 (a0.2.1 - (1 : Int)))) a3) (Vx.shlI Go.IntKind.u64 (1 : Int) (Go.IntKind.wrap Go.IntKind.i64 (a0.1 - (1 : Int))))), ()))
  else none)
  else some ((Vx.orI Go.IntKind.u64 (Vx.shlI Go.IntKind.u64 a2 (Go.IntKind.wrap Go.IntKind.i64 (a0.2.1 - (1 : Int)))) a3), ()))
  else none
theorem r140 (a0 : Den (.pair (.int .i64) (.pair (.int .i64) (.pair (.int .i64) (.pair (.int .i64) (.unit)))))) (a1 : Den (.bool)) (a2 : Den (.int .u64)) (a3 : Den (.int .u64)) :
    run { P := Go.Proofs.Tryd.prog, sums := [], loops := [], globs := G0 } 9 140 Go.Proofs.Tryd.f140 I140 O140 (a0, a1, a2, a3, ()) = t140 a0 a1 a2 a3 := by kernel_rfl
noncomputable def T140 (x : DenS I140) : Option (DenS O140) := t140 x.1 x.2.1 x.2.2.1 x.2.2.2.1
noncomputable def C140 : Cfg := { P := Go.Proofs.Tryd.prog, sums := [], loops := [], globs := G0 }
noncomputable def S140 : Sum := sumOf I140 O140 T140 (DenS.dflt O140)
theorem S140_sound : Sound Go.Proofs.Tryd.prog G0 140 S140 :=
  fn_sound C140 9 140 Go.Proofs.Tryd.f140 mixedOk (by kernel_rfl) (by kernel_rfl) (by kernel_rfl) trivial trivial I140 O140 T140 _ fun x => r140 x.1 x.2.1 x.2.2.1 x.2.2.2.1
/-- vernier/format.NaN -/
abbrev I70 : Sig := [(false, .int .i64)]
abbrev O70 : Sig := [(false, .int .u64), (false, .int .i64)]
def t70 (p116 : DenS I116 → Bool) (f116 : DenS I116 → DenS O116) (p117 : DenS I117 → Bool) (f117 : DenS I117 → DenS O117) (p69 : DenS I69 → Bool) (f69 : DenS I69 → DenS O69) (p91 : DenS I91 → Bool) (f91 : DenS I91 → DenS O91) (p140 : DenS I140 → Bool) (f140 : DenS I140 → DenS O140) (a0 : Den (.int .i64)) : Option (DenS O70) :=
  bif (p69 (a0, ())) then
  (bif ((f69 (a0, ())).2.1 != (0 : Int)) then
  (some ((0 : Int), (f69 (a0, ())).2))
  else bif (p91 ((Go.IntKind.wrap Go.IntKind.i64 ((f69 (a0, ())).1.1 - (f69 (a0, ())).1.2.1)), ())) then
  (bif (p116 ((f69 (a0, ())).1, ())) then
  (bif (p117 ((f69 (a0, ())).1, ())) then
  (bif (p140 ((f69 (a0, ())).1, (false, ((Go.IntKind.wrap Go.IntKind.u64 ((f91 ((Go.IntKind.wrap Go.IntKind.i64 ((f69 (a0, ())).1.1 - (f69 (a0, ())).1.2.1)), ())).1 - (f116 ((f69 (a0, ())).1, ())).1)), (f117 ((f69 (a0, ())).1, ())))))) then
  (some ((f140 ((f69 (a0, ())).1, (false, ((Go.IntKind.wrap Go.IntKind.u64 ((f91 ((Go.IntKind.wrap Go.IntKind.i64 ((f69 (a0, ())).1.1 - (f69 (a0, ())).1.2.1)), ())).1 - (f116 ((f69 (a0, ())).1, ())).1)), (f117 ((f69 (a0, ())).1, ())))))).1, ((0 : Int), ())))
  else none)
  else none)
  else none)
  else none)
  else none
theorem r70 (p116 : DenS I116 → Bool) (f116 : DenS I116 → DenS O116) (p117 : DenS I117 → Bool) (f117 : DenS I117 → DenS O117) (p69 : DenS I69 → Bool) (f69 : DenS I69 → DenS O69) (p91 : DenS I91 → Bool) (f91 : DenS I91 → DenS O91) (p140 : DenS I140 → Bool) (f140 : DenS I140 → DenS O140) (a0 : Den (.int .i64)) :
    run { P := Go.Proofs.Tryd.prog, sums := [(116, ⟨I116, O116, p116, f116⟩), (117, ⟨I117, O117, p117, f117⟩), (69, ⟨I69, O69, p69, f69⟩), (91, ⟨I91, O91, p91, f91⟩), (140, ⟨I140, O140, p140, f140⟩)], loops := [], globs := G0 } 9 70 Go.Proofs.Tryd.f70 I70 O70 (a0, ()) = t70 p116 f116 p117 f117 p69 f69 p91 f91 p140 f140 a0 := by kernel_rfl
noncomputable def T70 (x : DenS I70) : Option (DenS O70) := t70 S116.pre S116.F S117.pre S117.F S69.pre S69.F S91.pre S91.F S140.pre S140.F x.1
noncomputable def C70 : Cfg := { P := Go.Proofs.Tryd.prog, sums := [(116, S116), (117, S117), (69, S69), (91, S91), (140, S140)], loops := [], globs := G0 }
noncomputable def S70 : Sum := sumOf I70 O70 T70 (DenS.dflt O70)
theorem S70_sound : Sound Go.Proofs.Tryd.prog G0 70 S70 :=
  fn_sound C70 9 70 Go.Proofs.Tryd.f70 mixedOk (by kernel_rfl) (by kernel_rfl) (by kernel_rfl) ⟨S116_sound, ⟨S117_sound, ⟨S69_sound, ⟨S91_sound, ⟨S140_sound, trivial⟩⟩⟩⟩⟩ trivial I70 O70 T70 _ fun x => r70 S116.pre S116.F S117.pre S117.F S69.pre S69.F S91.pre S91.F S140.pre S140.F x.1
/-- vernier/format.Neg -/
abbrev I64 : Sig := [(false, .int .i64), (false, .int .u64)]
abbrev O64 : Sig := [(false, .int .u64), (false, .int .i64)]
def t64 (p66 : DenS I66 → Bool) (f66 : DenS I66 → DenS O66) (p115 : DenS I115 → Bool) (f115 : DenS I115 → DenS O115) (a0 : Den (.int .i64)) (a1 : Den (.int .u64)) : Option (DenS O64) :=
  bif (p66 (a0, (a1, ()))) then
  (bif ((f66 (a0, (a1, ()))).1 != (0 : Int)) then
  (some ((0 : Int), (f66 (a0, (a1, ())))))
  else bif (p115 (a0, ())) then
  (some ((Vx.xorI Go.IntKind.u64 a1 (f115 (a0, ())).1), ((0 : Int), ())))
  else none)
  else none
theorem r64 (p66 : DenS I66 → Bool) (f66 : DenS I66 → DenS O66) (p115 : DenS I115 → Bool) (f115 : DenS I115 → DenS O115) (a0 : Den (.int .i64)) (a1 : Den (.int .u64)) :
    run { P := Go.Proofs.Tryd.prog, sums := [(66, ⟨I66, O66, p66, f66⟩), (115, ⟨I115, O115, p115, f115⟩)], loops := [], globs := G0 } 9 64 Go.Proofs.Tryd.f64 I64 O64 (a0, a1, ()) = t64 p66 f66 p115 f115 a0 a1 := by kernel_rfl
noncomputable def T64 (x : DenS I64) : Option (DenS O64) := t64 S66.pre S66.F S115.pre S115.F x.1 x.2.1
noncomputable def C64 : Cfg := { P := Go.Proofs.Tryd.prog, sums := [(66, S66), (115, S115)], loops := [], globs := G0 }
noncomputable def S64 : Sum := sumOf I64 O64 T64 (DenS.dflt O64)
theorem S64_sound : Sound Go.Proofs.Tryd.prog G0 64 S64 :=
  fn_sound C64 9 64 Go.Proofs.Tryd.f64 mixedOk (by kernel_rfl) (by kernel_rfl) (by kernel_rfl) ⟨S66_sound, ⟨S115_sound, trivial⟩⟩ trivial I64 O64 T64 _ fun x => r64 S66.pre S66.F S115.pre S115.F x.1 x.2.1
/-- vernier/order.step -/
abbrev I93 : Sig := [(false, .int .i64), (false, .int .u64), (false, .int .i64)]
abbrev O93 : Sig := [(false, .int .u64), (false, .int .i64), (false, .int .i64)]
def t93 (p82 : DenS I82 → Bool) (f82 : DenS I82 → DenS O82) (p53 : DenS I53 → Bool) (f53 : DenS I53 → DenS O53) (p70 : DenS I70 → Bool) (f70 : DenS I70 → DenS O70) (p54 : DenS I54 → Bool) (f54 : DenS I54 → DenS O54) (p64 : DenS I64 → Bool) (f64 : DenS I64 → DenS O64) (a0 : Den (.int .i64)) (a1 : Den (.int .u64)) (a2 : Den (.int .i64)) : Option (DenS O93) :=
  bif (p82 (a0, (a1, ()))) then
  (bif ((f82 (a0, (a1, ()))).2.1 != (0 : Int)) then
  (some ((0 : Int), ((0 : Int), (f82 (a0, (a1, ()))).2)))
  else bif (p53 ((f82 (a0, (a1, ()))).1, ())) then
  (bif (f53 ((f82 (a0, (a1, ()))).1, ())).1 then
  (bif (p70 (a0, ())) then
  (bif (p54 ((f82 (a0, (a1, ()))).1, ((f82 (a0, (a1, ()))).1, ()))) then
  (some ((f70 (a0, ())).1, ((f54 ((f82 (a0, (a1, ()))).1, ((f82 (a0, (a1, ()))).1, ()))).1, ((0 : Int), ()))))
  else none)
  else none)
  else bif ((((f82 (a0, (a1, ()))).1.1 == (9 : Int)) && (decide (a2 > (0 : Int)))) || (((f82 (a0, (a1, ()))).1.1 == (2 : Int)) && (decide (a2 < (0 : Int))))) then
  (some (a1, ((0 : Int), ((0 : Int), ()))))
  else bif ((decide ((Go.IntKind.wrap Go.IntKind.i64 ((f82 (a0, (a1, ()))).1.2.1 + a2)) > (0 : Int))) || (((Go.IntKind.wrap Go.IntKind.i64 ((f82 (a0, (a1, ()))).1.2.1 + a2)) == (0 : Int)) && (decide (a2 < (0 : Int))))) then
  (some ((Go.IntKind.wrap Go.IntKind.u64 (Go.IntKind.wrap Go.IntKind.i64 ((f82 (a0, (a1, ()))).1.2.1 + a2))), ((0 : Int), ((0 : Int), ()))))
  else bif (p64 (a0, ((Go.IntKind.wrap Go.IntKind.u64 (Go.IntKind.wrap Go.IntKind.i64 ((0 : Int) - (Go.IntKind.wrap Go.IntKind.i64 ((f82 (a0, (a1, ()))).1.2.1 + a2))))), ()))) then
  (some ((f64 (a0, ((Go.IntKind.wrap Go.IntKind.u64 (Go.IntKind.wrap Go.IntKind.i64 ((0 : Int) - (Go.IntKind.wrap Go.IntKind.i64 ((f82 (a0, (a1, ()))).1.2.1 + a2))))), ()))).1, ((0 : Int), (f64 (a0, ((Go.IntKind.wrap Go.IntKind.u64 (Go.IntKind.wrap Go.IntKind.i64 ((0 : Int) - (Go.IntKind.wrap Go.IntKind.i64 ((f82 (a0, (a1, ()))).1.2.1 + a2))))), ()))).2)))
  else none)
  else none)
  else none
theorem r93 (p82 : DenS I82 → Bool) (f82 : DenS I82 → DenS O82) (p53 : DenS I53 → Bool) (f53 : DenS I53 → DenS O53) (p70 : DenS I70 → Bool) (f70 : DenS I70 → DenS O70) (p54 : DenS I54 → Bool) (f54 : DenS I54 → DenS O54) (p64 : DenS I64 → Bool) (f64 : DenS I64 → DenS O64) (a0 : Den (.int .i64)) (a1 : Den (.int .u64)) (a2 : Den (.int .i64)) :
    run { P := Go.Proofs.Tryd.prog, sums := [(82, ⟨I82, O82, p82, f82⟩), (53, ⟨I53, O53, p53, f53⟩), (70, ⟨I70, O70, p70, f70⟩), (54, ⟨I54, O54, p54, f54⟩), (64, ⟨I64, O64, p64, f64⟩)], loops := [], globs := G0 } 9 93 Go.Proofs.Tryd.f93 I93 O93 (a0, a1, a2, ()) = t93 p82 f82 p53 f53 p70 f70 p54 f54 p64 f64 a0 a1 a2 := by kernel_rfl
noncomputable def T93 (x : DenS I93) : Option (DenS O93) := t93 S82.pre S82.F S53.pre S53.F S70.pre S70.F S54.pre S54.F S64.pre S64.F x.1 x.2.1 x.2.2.1
noncomputable def C93 : Cfg := { P := Go.Proofs.Tryd.prog, sums := [(82, S82), (53, S53), (70, S70), (54, S54), (64, S64)], loops := [], globs := G0 }
noncomputable def S93 : Sum := sumOf I93 O93 T93 (DenS.dflt O93)
theorem S93_sound : Sound Go.Proofs.Tryd.prog G0 93 S93 :=
  fn_sound C93 9 93 Go.Proofs.Tryd.f93 mixedOk (by kernel_rfl) (by kernel_rfl) (by kernel_rfl) ⟨S82_sound, ⟨S53_sound, ⟨S70_sound, ⟨S54_sound, ⟨S64_sound, trivial⟩⟩⟩⟩⟩ trivial I93 O93 T93 _ fun x => r93 S82.pre S82.F S53.pre S53.F S70.pre S70.F S54.pre S54.F S64.pre S64.F x.1 x.2.1 x.2.2.1
/-- vernier/order.NextUp -/
abbrev I41 : Sig := [(false, .int .i64), (false, .int .u64)]
abbrev O41 : Sig := [(false, .int .u64), (false, .int .i64), (false, .int .i64)]
def t41 (p93 : DenS I93 → Bool) (f93 : DenS I93 → DenS O93) (a0 : Den (.int .i64)) (a1 : Den (.int .u64)) : Option (DenS O41) :=
  bif (p93 (a0, (a1, ((1 : Int), ())))) then
  (some (f93 (a0, (a1, ((1 : Int), ())))))
  else none
theorem r41 (p93 : DenS I93 → Bool) (f93 : DenS I93 → DenS O93) (a0 : Den (.int .i64)) (a1 : Den (.int .u64)) :
    run { P := Go.Proofs.Tryd.prog, sums := [(93, ⟨I93, O93, p93, f93⟩)], loops := [], globs := G0 } 9 41 Go.Proofs.Tryd.f41 I41 O41 (a0, a1, ()) = t41 p93 f93 a0 a1 := by kernel_rfl
noncomputable def T41 (x : DenS I41) : Option (DenS O41) := t41 S93.pre S93.F x.1 x.2.1
noncomputable def C41 : Cfg := { P := Go.Proofs.Tryd.prog, sums := [(93, S93)], loops := [], globs := G0 }
noncomputable def S41 : Sum := sumOf I41 O41 T41 (DenS.dflt O41)
theorem S41_sound : Sound Go.Proofs.Tryd.prog G0 41 S41 :=
  fn_sound C41 9 41 Go.Proofs.Tryd.f41 mixedOk (by kernel_rfl) (by kernel_rfl) (by kernel_rfl) ⟨S93_sound, trivial⟩ trivial I41 O41 T41 _ fun x => r41 S93.pre S93.F x.1 x.2.1
/-- vernier/vernierlaw13.fixed -/
abbrev I16 : Sig := []
abbrev O16 : Sig := [(false, .bool)]
def t16 (p14 : DenS I14 → Bool) (f14 : DenS I14 → DenS O14) (p41 : DenS I41 → Bool) (f41 : DenS I41 → DenS O41) : Option (DenS O16) :=
  bif (p14 ((0 : Int), ((32256 : Int), ((0 : Int), (true, ()))))) then
  (bif (p41 ((0 : Int), ((32769 : Int), ()))) then
  (some ((((((((f14 ((0 : Int), ((32256 : Int), ((0 : Int), (true, ()))))).1 == (3 : Int)) && ((f14 ((0 : Int), ((32256 : Int), ((0 : Int), (true, ()))))).2.1 == (1 : Int))) && ((f14 ((0 : Int), ((32256 : Int), ((0 : Int), (true, ()))))).2.2.1 == (0 : Int))) && ((f41 ((0 : Int), ((32769 : Int), ()))).1 == (32768 : Int))) && ((f41 ((0 : Int), ((32769 : Int), ()))).2.1 == (0 : Int))) && ((f41 ((0 : Int), ((32769 : Int), ()))).2.2.1 == (0 : Int))), ()))
  else none)
  else none
theorem r16 (p14 : DenS I14 → Bool) (f14 : DenS I14 → DenS O14) (p41 : DenS I41 → Bool) (f41 : DenS I41 → DenS O41) :
    run { P := Go.Proofs.Tryd.prog, sums := [(14, ⟨I14, O14, p14, f14⟩), (41, ⟨I41, O41, p41, f41⟩)], loops := [], globs := G0 } 9 16 Go.Proofs.Tryd.f16 I16 O16 (()) = t16 p14 f14 p41 f41 := by kernel_rfl
noncomputable def T16 (x : DenS I16) : Option (DenS O16) := t16 S14.pre S14.F S41.pre S41.F
noncomputable def C16 : Cfg := { P := Go.Proofs.Tryd.prog, sums := [(14, S14), (41, S41)], loops := [], globs := G0 }
noncomputable def S16 : Sum := sumOf I16 O16 T16 (DenS.dflt O16)
theorem S16_sound : Sound Go.Proofs.Tryd.prog G0 16 S16 :=
  fn_sound C16 9 16 Go.Proofs.Tryd.f16 mixedOk (by kernel_rfl) (by kernel_rfl) (by kernel_rfl) ⟨S14_sound, ⟨S41_sound, trivial⟩⟩ trivial I16 O16 T16 _ fun x => r16 S14.pre S14.F S41.pre S41.F
/-- vernier/vernierlaw13.OrderCompares -/
abbrev I3 : Sig := [(false, .int .i64), (false, .int .u64), (false, .int .u64)]
abbrev O3 : Sig := [(false, .bool)]
abbrev P3_2 : Pat := ⟨54, [(16, .one (.v .i64)), (15, .one (.sl (.bool))), (0, .one (.v .i64)), (1, .one (.v .u64)), (2, .one (.v .u64)), (17, .one (.v .i64))], []⟩
abbrev A3_2 : List (Nat × Shape) := []
abbrev X3_2 : List (Nat × Pat) := [(0, ⟨54, [], []⟩)]
abbrev Q3_2 : Option Pat := (some ⟨54, [(6, .one (.bool))], []⟩)
def t3 (p14 : DenS I14 → Bool) (f14 : DenS I14 → DenS O14) (p15 : DenS I15 → Bool) (f15 : DenS I15 → DenS O15) (p16 : DenS I16 → Bool) (f16 : DenS I16 → DenS O16) (w3_2 : Pat.D P3_2 → Option (OutT X3_2 Q3_2)) (a0 : Den (.int .i64)) (a1 : Den (.int .u64)) (a2 : Den (.int .u64)) : Option (DenS O3) :=
  Vx.obind (w3_2 ((((false :: (true :: [])).length : Int), ((false :: (true :: [])), (a0, (a1, (a2, ((0 : Int), ())))))), ())) fun y0 =>
  Vx.obind2 y0 (fun y1 =>
  bif (p16 ()) then
  (some (f16 ()))
  else none) (fun z1 =>
  some z1.1)
theorem r3 (p14 : DenS I14 → Bool) (f14 : DenS I14 → DenS O14) (p15 : DenS I15 → Bool) (f15 : DenS I15 → DenS O15) (p16 : DenS I16 → Bool) (f16 : DenS I16 → DenS O16) (w3_2 : Pat.D P3_2 → Option (OutT X3_2 Q3_2)) (a0 : Den (.int .i64)) (a1 : Den (.int .u64)) (a2 : Den (.int .u64)) :
    run { P := Go.Proofs.Tryd.prog, sums := [(14, ⟨I14, O14, p14, f14⟩), (15, ⟨I15, O15, p15, f15⟩), (16, ⟨I16, O16, p16, f16⟩)], loops := [(3, 2, LoopSpec.of P3_2 A3_2 X3_2 Q3_2 w3_2)], globs := G0 } 9 3 Go.Proofs.Tryd.f3 I3 O3 (a0, a1, a2, ()) = t3 p14 f14 p15 f15 p16 f16 w3_2 a0 a1 a2 := by kernel_rfl
/-- vernier/order.Total -/
abbrev I17 : Sig := [(false, .int .i64), (false, .int .u64), (false, .int .u64)]
abbrev O17 : Sig := [(false, .int .i64), (false, .int .i64)]
/-- vernier/vernierref13.Total -/
abbrev I18 : Sig := [(false, .int .i64), (false, .int .u64), (false, .int .u64)]
abbrev O18 : Sig := [(false, .int .i64), (false, .int .i64)]
/-- vernier/order.Min -/
abbrev I19 : Sig := [(false, .int .i64), (false, .int .u64), (false, .int .u64)]
abbrev O19 : Sig := [(false, .int .u64), (false, .int .i64), (false, .int .i64)]
/-- vernier/vernierref04.Make -/
abbrev I132 : Sig := [(false, .int .i64), (false, .int .u64), (false, .int .u64), (false, .int .u64)]
abbrev O132 : Sig := [(false, .int .u64)]
def t132 (p131 : DenS I131 → Bool) (f131 : DenS I131 → DenS O131) (a0 : Den (.int .i64)) (a1 : Den (.int .u64)) (a2 : Den (.int .u64)) (a3 : Den (.int .u64)) : Option (DenS O132) :=
  bif (p131 (a0, ())) then
  (some ((Vx.orI Go.IntKind.u64 (Vx.orI Go.IntKind.u64 (Vx.shlI Go.IntKind.u64 a1 (Go.IntKind.wrap Go.IntKind.u64 (Go.IntKind.wrap Go.IntKind.i64 ((f131 (a0, ())).1.1 - (1 : Int))))) (Vx.shlI Go.IntKind.u64 a2 (Go.IntKind.wrap Go.IntKind.u64 (Go.IntKind.wrap Go.IntKind.i64 ((f131 (a0, ())).1.2.1 - (1 : Int)))))) a3), ()))
  else none
theorem r132 (p131 : DenS I131 → Bool) (f131 : DenS I131 → DenS O131) (a0 : Den (.int .i64)) (a1 : Den (.int .u64)) (a2 : Den (.int .u64)) (a3 : Den (.int .u64)) :
    run { P := Go.Proofs.Tryd.prog, sums := [(131, ⟨I131, O131, p131, f131⟩)], loops := [], globs := G0 } 9 132 Go.Proofs.Tryd.f132 I132 O132 (a0, a1, a2, a3, ()) = t132 p131 f131 a0 a1 a2 a3 := by kernel_rfl
noncomputable def T132 (x : DenS I132) : Option (DenS O132) := t132 S131.pre S131.F x.1 x.2.1 x.2.2.1 x.2.2.2.1
noncomputable def C132 : Cfg := { P := Go.Proofs.Tryd.prog, sums := [(131, S131)], loops := [], globs := G0 }
noncomputable def S132 : Sum := sumOf I132 O132 T132 (DenS.dflt O132)
theorem S132_sound : Sound Go.Proofs.Tryd.prog G0 132 S132 :=
  fn_sound C132 9 132 Go.Proofs.Tryd.f132 mixedOk (by kernel_rfl) (by kernel_rfl) (by kernel_rfl) ⟨S131_sound, trivial⟩ trivial I132 O132 T132 _ fun x => r132 S131.pre S131.F x.1 x.2.1 x.2.2.1 x.2.2.2.1
/-- vernier/vernierref04.NaN -/
abbrev I84 : Sig := [(false, .int .i64)]
abbrev O84 : Sig := [(false, .int .u64)]
def t84 (p131 : DenS I131 → Bool) (f131 : DenS I131 → DenS O131) (p132 : DenS I132 → Bool) (f132 : DenS I132 → DenS O132) (a0 : Den (.int .i64)) : Option (DenS O84) :=
  bif (p131 (a0, ())) then
  (bif (p132 (a0, ((0 : Int), ((Go.IntKind.wrap Go.IntKind.u64 (Go.IntKind.wrap Go.IntKind.i64 ((Go.IntKind.wrap Go.IntKind.i64 ((2 : Int) * (f131 (a0, ())).1.2.2.2.1)) + (1 : Int)))), ((Vx.shlI Go.IntKind.u64 (1 : Int) (Go.IntKind.wrap Go.IntKind.u64 (Go.IntKind.wrap Go.IntKind.i64 ((f131 (a0, ())).1.2.1 - (2 : Int))))), ()))))) then
  (some (f132 (a0, ((0 : Int), ((Go.IntKind.wrap Go.IntKind.u64 (Go.IntKind.wrap Go.IntKind.i64 ((Go.IntKind.wrap Go.IntKind.i64 ((2 : Int) * (f131 (a0, ())).1.2.2.2.1)) + (1 : Int)))), ((Vx.shlI Go.IntKind.u64 (1 : Int) (Go.IntKind.wrap Go.IntKind.u64 (Go.IntKind.wrap Go.IntKind.i64 ((f131 (a0, ())).1.2.1 - (2 : Int))))), ()))))))
  else none)
  else none
theorem r84 (p131 : DenS I131 → Bool) (f131 : DenS I131 → DenS O131) (p132 : DenS I132 → Bool) (f132 : DenS I132 → DenS O132) (a0 : Den (.int .i64)) :
    run { P := Go.Proofs.Tryd.prog, sums := [(131, ⟨I131, O131, p131, f131⟩), (132, ⟨I132, O132, p132, f132⟩)], loops := [], globs := G0 } 9 84 Go.Proofs.Tryd.f84 I84 O84 (a0, ()) = t84 p131 f131 p132 f132 a0 := by kernel_rfl
noncomputable def T84 (x : DenS I84) : Option (DenS O84) := t84 S131.pre S131.F S132.pre S132.F x.1
noncomputable def C84 : Cfg := { P := Go.Proofs.Tryd.prog, sums := [(131, S131), (132, S132)], loops := [], globs := G0 }
noncomputable def S84 : Sum := sumOf I84 O84 T84 (DenS.dflt O84)
theorem S84_sound : Sound Go.Proofs.Tryd.prog G0 84 S84 :=
  fn_sound C84 9 84 Go.Proofs.Tryd.f84 mixedOk (by kernel_rfl) (by kernel_rfl) (by kernel_rfl) ⟨S131_sound, ⟨S132_sound, trivial⟩⟩ trivial I84 O84 T84 _ fun x => r84 S131.pre S131.F S132.pre S132.F x.1
/-- vernier/vernierref04.Zero -/
abbrev I114 : Sig := [(false, .int .i64), (false, .int .u64)]
abbrev O114 : Sig := [(false, .int .u64)]
def t114 (p132 : DenS I132 → Bool) (f132 : DenS I132 → DenS O132) (a0 : Den (.int .i64)) (a1 : Den (.int .u64)) : Option (DenS O114) :=
  bif (p132 (a0, (a1, ((0 : Int), ((0 : Int), ()))))) then
  (some (f132 (a0, (a1, ((0 : Int), ((0 : Int), ()))))))
  else none
theorem r114 (p132 : DenS I132 → Bool) (f132 : DenS I132 → DenS O132) (a0 : Den (.int .i64)) (a1 : Den (.int .u64)) :
    run { P := Go.Proofs.Tryd.prog, sums := [(132, ⟨I132, O132, p132, f132⟩)], loops := [], globs := G0 } 9 114 Go.Proofs.Tryd.f114 I114 O114 (a0, a1, ()) = t114 p132 f132 a0 a1 := by kernel_rfl
noncomputable def T114 (x : DenS I114) : Option (DenS O114) := t114 S132.pre S132.F x.1 x.2.1
noncomputable def C114 : Cfg := { P := Go.Proofs.Tryd.prog, sums := [(132, S132)], loops := [], globs := G0 }
noncomputable def S114 : Sum := sumOf I114 O114 T114 (DenS.dflt O114)
theorem S114_sound : Sound Go.Proofs.Tryd.prog G0 114 S114 :=
  fn_sound C114 9 114 Go.Proofs.Tryd.f114 mixedOk (by kernel_rfl) (by kernel_rfl) (by kernel_rfl) ⟨S132_sound, trivial⟩ trivial I114 O114 T114 _ fun x => r114 S132.pre S132.F x.1 x.2.1
/-- vernier/vernierref13.Min -/
abbrev I20 : Sig := [(false, .int .i64), (false, .int .u64), (false, .int .u64)]
abbrev O20 : Sig := [(false, .int .u64), (false, .int .i64), (false, .int .i64)]
/-- vernier/order.Max -/
abbrev I21 : Sig := [(false, .int .i64), (false, .int .u64), (false, .int .u64)]
abbrev O21 : Sig := [(false, .int .u64), (false, .int .i64), (false, .int .i64)]
/-- vernier/vernierref13.Max -/
abbrev I22 : Sig := [(false, .int .i64), (false, .int .u64), (false, .int .u64)]
abbrev O22 : Sig := [(false, .int .u64), (false, .int .i64), (false, .int .i64)]
abbrev O4 : Sig := [(false, .bool)]
def t4 (p17 : DenS I17 → Bool) (f17 : DenS I17 → DenS O17) (p18 : DenS I18 → Bool) (f18 : DenS I18 → DenS O18) (p19 : DenS I19 → Bool) (f19 : DenS I19 → DenS O19) (p20 : DenS I20 → Bool) (f20 : DenS I20 → DenS O20) (p16 : DenS I16 → Bool) (f16 : DenS I16 → DenS O16) (p21 : DenS I21 → Bool) (f21 : DenS I21 → DenS O21) (p22 : DenS I22 → Bool) (f22 : DenS I22 → DenS O22) (a0 : Den (.int .i64)) (a1 : Den (.int .u64)) (a2 : Den (.int .u64)) : Option (DenS O4) :=
  bif (p17 (a0, (a1, (a2, ())))) then
  (bif (p18 (a0, (a1, (a2, ())))) then
  (bif (((f17 (a0, (a1, (a2, ())))).1 != (f18 (a0, (a1, (a2, ())))).1) || ((f17 (a0, (a1, (a2, ())))).2.1 != (f18 (a0, (a1, (a2, ())))).2.1)) then
  (some (false, ()))
  else bif (p19 (a0, (a1, (a2, ())))) then
  (bif (p20 (a0, (a1, (a2, ())))) then
  (bif (p16 ()) then
  (bif ((((!(f16 ()).1) || ((f19 (a0, (a1, (a2, ())))).1 != (f20 (a0, (a1, (a2, ())))).1)) || ((f19 (a0, (a1, (a2, ())))).2.1 != (f20 (a0, (a1, (a2, ())))).2.1)) || ((f19 (a0, (a1, (a2, ())))).2.2.1 != (f20 (a0, (a1, (a2, ())))).2.2.1)) then
  (some (false, ()))
  else bif (p21 (a0, (a1, (a2, ())))) then
  (bif (p22 (a0, (a1, (a2, ())))) then
  (some (((((f21 (a0, (a1, (a2, ())))).1 == (f22 (a0, (a1, (a2, ())))).1) && ((f21 (a0, (a1, (a2, ())))).2.1 == (f22 (a0, (a1, (a2, ())))).2.1)) && ((f21 (a0, (a1, (a2, ())))).2.2.1 == (f22 (a0, (a1, (a2, ())))).2.2.1)), ()))
  else none)
  else none)
  else none)
  else none)
  else none)
  else none)
  else none
end Vx
namespace Vx
open Go
theorem t16_true : T16 () = some (true, ()) := by kernel_rfl
theorem shrI_u64 {a : Int} (n : Nat) (hn : n ≤ 64) : shrI .u64 a (n : Int) = a / 2 ^ n := by
  unfold shrI
  rw [Int.fdiv_eq_ediv_of_nonneg]
  · congr 2
    simp [IntKind.bits]
    omega
  · exact Int.pow_nonneg (by omega)
theorem ofInt_u64 {m : Nat} (h : m < 2 ^ 64) : (BitVec.ofInt 64 (m : Int)).toNat = m := by
  rw [BitVec.toNat_ofInt]
  omega
theorem andI_mask {m n : Nat} (h : m < 2 ^ 64) (hn : n ≤ 64) : andI .u64 (m : Int) ((2 ^ n - 1 : Nat) : Int) = ((m % 2 ^ n : Nat) : Int) := by
  have h2 : 2 ^ n ≤ 2 ^ 64 := Nat.pow_le_pow_right (by omega) hn
  have h3 : 0 < 2 ^ n := Nat.two_pow_pos n
  have hlt : m % 2 ^ n < 2 ^ n := Nat.mod_lt _ h3
  have key : (BitVec.ofInt 64 (m : Int) &&& BitVec.ofInt 64 ((2 ^ n - 1 : Nat) : Int)).toNat = m % 2 ^ n := by
    rw [BitVec.toNat_and, ofInt_u64 h, ofInt_u64 (by omega), Nat.and_two_pow_sub_one_eq_mod]
  show IntKind.u64.wrap (((BitVec.ofInt 64 (m : Int) &&& BitVec.ofInt 64 ((2 ^ n - 1 : Nat) : Int)).toNat : Nat) : Int) = _
  rw [key]
  exact IntWalk.u64_in _ (by omega)
theorem shlI_one {n : Nat} (hn : n ≤ 63) : shlI .u64 1 (n : Int) = ((2 ^ n : Nat) : Int) := by
  have h2 : 2 ^ n ≤ 2 ^ 63 := Nat.pow_le_pow_right (by omega) hn
  have : (min (n : Int).toNat IntKind.u64.bits) = n := by simp [IntKind.bits]; omega
  unfold shlI
  rw [this, Int.one_mul]
  have e : (2 : Int) ^ n = ((2 ^ n : Nat) : Int) := by simp
  rw [e]
  refine IntWalk.u64_in _ ⟨Int.natCast_nonneg _, ?_⟩
  have : ((2 ^ n : Nat) : Int) ≤ ((2 ^ 63 : Nat) : Int) := Int.ofNat_le.2 h2
  exact Int.le_trans this (by decide)
theorem andNotI_bit {m n : Nat} (hn : n ≤ 63) (h : m < 2 ^ (n + 1)) : andNotI .u64 (m : Int) ((2 ^ n : Nat) : Int) = ((m % 2 ^ n : Nat) : Int) := by
  have h1 : 2 ^ (n + 1) ≤ 2 ^ 64 := Nat.pow_le_pow_right (by omega) (by omega)
  have h2 : 2 ^ n < 2 ^ 64 := Nat.pow_lt_pow_right (by omega) (by omega)
  have hlt : m % 2 ^ n < 2 ^ n := Nat.mod_lt _ (Nat.two_pow_pos n)
  have key : (BitVec.ofInt 64 (m : Int) &&& ~~~(BitVec.ofInt 64 ((2 ^ n : Nat) : Int))).toNat = m % 2 ^ n := by
    apply Nat.eq_of_testBit_eq
    intro i
    rw [BitVec.toNat_and, Nat.testBit_and, ofInt_u64 (by omega), Nat.testBit_mod_two_pow]
    have e : (~~~(BitVec.ofInt 64 ((2 ^ n : Nat) : Int))).toNat.testBit i = (decide (i < 64) && !decide (n = i)) := by
      rw [← BitVec.getLsbD, BitVec.getLsbD_not, BitVec.getLsbD, ofInt_u64 h2, Nat.testBit_two_pow]
    rw [e]
    rcases Nat.lt_trichotomy i n with hi | hi | hi
    · have : i < 64 := by omega
      have hne : ¬ n = i := by omega
      simp [this, hne, hi]
    · subst hi; simp
    · have hz : m.testBit i = false := Nat.testBit_lt_two_pow (Nat.lt_of_lt_of_le h (Nat.pow_le_pow_right (by omega) (by omega)))
      simp [hz]
  show IntKind.u64.wrap (((BitVec.ofInt 64 (m : Int) &&& ~~~(BitVec.ofInt 64 ((2 ^ n : Nat) : Int))).toNat : Nat) : Int) = _
  rw [key]
  exact IntWalk.u64_in _ (by omega)
end Vx
namespace Vx
open Go
theorem sum_pre {I O : Sig} {T : DenS I → Option (DenS O)} {d : DenS O} {x : DenS I} {y : DenS O} (h : T x = some y) : (sumOf I O T d).pre x = true := by
  show (T x).isSome = true
  rw [h]; rfl
theorem sum_F {I O : Sig} {T : DenS I → Option (DenS O)} {d : DenS O} {x : DenS I} {y : DenS O} (h : T x = some y) : (sumOf I O T d).F x = y := by
  show (T x).getD d = y
  rw [h]; rfl
theorem pre69 {x : DenS I69} {y : DenS O69} (h : T69 x = some y) : S69.pre x = true := sum_pre (T := T69) h
theorem fun69 {x : DenS I69} {y : DenS O69} (h : T69 x = some y) : S69.F x = y := sum_F (T := T69) h
theorem pre66 {x : DenS I66} {y : DenS O66} (h : T66 x = some y) : S66.pre x = true := sum_pre (T := T66) h
theorem fun66 {x : DenS I66} {y : DenS O66} (h : T66 x = some y) : S66.F x = y := sum_F (T := T66) h
theorem pre91 {x : DenS I91} {y : DenS O91} (h : T91 x = some y) : S91.pre x = true := sum_pre (T := T91) h
theorem fun91 {x : DenS I91} {y : DenS O91} (h : T91 x = some y) : S91.F x = y := sum_F (T := T91) h
theorem pre90 {x : DenS I90} {y : DenS O90} (h : T90 x = some y) : S90.pre x = true := sum_pre (T := T90) h
theorem fun90 {x : DenS I90} {y : DenS O90} (h : T90 x = some y) : S90.F x = y := sum_F (T := T90) h
theorem pre65 {x : DenS I65} {y : DenS O65} (h : T65 x = some y) : S65.pre x = true := sum_pre (T := T65) h
theorem fun65 {x : DenS I65} {y : DenS O65} (h : T65 x = some y) : S65.F x = y := sum_F (T := T65) h
theorem pre115 {x : DenS I115} {y : DenS O115} (h : T115 x = some y) : S115.pre x = true := sum_pre (T := T115) h
theorem fun115 {x : DenS I115} {y : DenS O115} (h : T115 x = some y) : S115.F x = y := sum_F (T := T115) h
theorem pre112 {x : DenS I112} {y : DenS O112} (h : T112 x = some y) : S112.pre x = true := sum_pre (T := T112) h
theorem fun112 {x : DenS I112} {y : DenS O112} (h : T112 x = some y) : S112.F x = y := sum_F (T := T112) h
theorem pre82 {x : DenS I82} {y : DenS O82} (h : T82 x = some y) : S82.pre x = true := sum_pre (T := T82) h
theorem fun82 {x : DenS I82} {y : DenS O82} (h : T82 x = some y) : S82.F x = y := sum_F (T := T82) h
theorem pre53 {x : DenS I53} {y : DenS O53} (h : T53 x = some y) : S53.pre x = true := sum_pre (T := T53) h
theorem fun53 {x : DenS I53} {y : DenS O53} (h : T53 x = some y) : S53.F x = y := sum_F (T := T53) h
theorem pre54 {x : DenS I54} {y : DenS O54} (h : T54 x = some y) : S54.pre x = true := sum_pre (T := T54) h
theorem fun54 {x : DenS I54} {y : DenS O54} (h : T54 x = some y) : S54.F x = y := sum_F (T := T54) h
theorem pre131 {x : DenS I131} {y : DenS O131} (h : T131 x = some y) : S131.pre x = true := sum_pre (T := T131) h
theorem fun131 {x : DenS I131} {y : DenS O131} (h : T131 x = some y) : S131.F x = y := sum_F (T := T131) h
theorem pre108 {x : DenS I108} {y : DenS O108} (h : T108 x = some y) : S108.pre x = true := sum_pre (T := T108) h
theorem fun108 {x : DenS I108} {y : DenS O108} (h : T108 x = some y) : S108.F x = y := sum_F (T := T108) h
theorem pre113 {x : DenS I113} {y : DenS O113} (h : T113 x = some y) : S113.pre x = true := sum_pre (T := T113) h
theorem fun113 {x : DenS I113} {y : DenS O113} (h : T113 x = some y) : S113.F x = y := sum_F (T := T113) h
theorem pre109 {x : DenS I109} {y : DenS O109} (h : T109 x = some y) : S109.pre x = true := sum_pre (T := T109) h
theorem fun109 {x : DenS I109} {y : DenS O109} (h : T109 x = some y) : S109.F x = y := sum_F (T := T109) h
theorem pre110 {x : DenS I110} {y : DenS O110} (h : T110 x = some y) : S110.pre x = true := sum_pre (T := T110) h
theorem fun110 {x : DenS I110} {y : DenS O110} (h : T110 x = some y) : S110.F x = y := sum_F (T := T110) h
theorem pre56 {x : DenS I56} {y : DenS O56} (h : T56 x = some y) : S56.pre x = true := sum_pre (T := T56) h
theorem fun56 {x : DenS I56} {y : DenS O56} (h : T56 x = some y) : S56.F x = y := sum_F (T := T56) h
theorem pre59 {x : DenS I59} {y : DenS O59} (h : T59 x = some y) : S59.pre x = true := sum_pre (T := T59) h
theorem fun59 {x : DenS I59} {y : DenS O59} (h : T59 x = some y) : S59.F x = y := sum_F (T := T59) h
theorem pre70 {x : DenS I70} {y : DenS O70} (h : T70 x = some y) : S70.pre x = true := sum_pre (T := T70) h
theorem fun70 {x : DenS I70} {y : DenS O70} (h : T70 x = some y) : S70.F x = y := sum_F (T := T70) h
theorem pre16 {x : DenS I16} {y : DenS O16} (h : T16 x = some y) : S16.pre x = true := sum_pre (T := T16) h
theorem fun16 {x : DenS I16} {y : DenS O16} (h : T16 x = some y) : S16.F x = y := sum_F (T := T16) h
theorem pre132 {x : DenS I132} {y : DenS O132} (h : T132 x = some y) : S132.pre x = true := sum_pre (T := T132) h
theorem fun132 {x : DenS I132} {y : DenS O132} (h : T132 x = some y) : S132.F x = y := sum_F (T := T132) h
theorem pre84 {x : DenS I84} {y : DenS O84} (h : T84 x = some y) : S84.pre x = true := sum_pre (T := T84) h
theorem fun84 {x : DenS I84} {y : DenS O84} (h : T84 x = some y) : S84.F x = y := sum_F (T := T84) h
end Vx
namespace VL
open Go Vx
def Fm (f : Int) : Prop := 0 ≤ f ∧ f < 4
instance (f : Int) : Decidable (Fm f) := by unfold Fm; infer_instance
def fW (f : Int) : Nat := if f = 0 then 16 else if f = 1 then 16 else if f = 2 then 32 else 64
def fP (f : Int) : Nat := if f = 0 then 11 else if f = 1 then 8 else if f = 2 then 24 else 53
def fX (f : Int) : Nat := if f = 0 then 15 else if f = 1 then 127 else if f = 2 then 127 else 1023
def rowOf (f : Int) : Den rowsSh := ((fW f : Int), ((fP f : Int), ((1 - (fX f : Int)), ((fX f : Int), ()))))
theorem Fm_cases {f : Int} (h : Fm f) : f = 0 ∨ f = 1 ∨ f = 2 ∨ f = 3 := by
  obtain ⟨h1, h2⟩ := h
  omega
theorem row_at {f : Int} (h : Fm f) (d : Den rowsSh) : k_rows.getD (Int.toNat f) d = rowOf f := by
  rcases Fm_cases h with rfl | rfl | rfl | rfl <;> rfl
theorem fP_ge {f : Int} (h : Fm f) : 8 ≤ fP f := by
  rcases Fm_cases h with rfl | rfl | rfl | rfl <;> decide
theorem fP_lt {f : Int} (h : Fm f) : fP f + 5 ≤ fW f := by
  rcases Fm_cases h with rfl | rfl | rfl | rfl <;> decide
theorem fW_le {f : Int} (h : Fm f) : fW f ≤ 64 := by
  rcases Fm_cases h with rfl | rfl | rfl | rfl <;> decide
theorem fX_le {f : Int} (h : Fm f) : fX f ≤ 1023 := by
  rcases Fm_cases h with rfl | rfl | rfl | rfl <;> decide
theorem fX_eq {f : Int} (h : Fm f) : 2 * fX f + 1 = 2 ^ (fW f - fP f) - 1 := by
  rcases Fm_cases h with rfl | rfl | rfl | rfl <;> decide
theorem wrapI {n : Int} (h : -9223372036854775808 ≤ n ∧ n < 9223372036854775808) : IntKind.wrap .i64 n = n := IntWalk.i64_in n ⟨h.1, by omega⟩
theorem wrapU {n : Int} (h : 0 ≤ n ∧ n < 18446744073709551616) : IntKind.wrap .u64 n = n := IntWalk.u64_in n ⟨h.1, by omega⟩
theorem shrN (a n : Nat) (hn : n ≤ 64) : shrI .u64 (a : Int) (n : Int) = ((a / 2 ^ n : Nat) : Int) := by
  rw [shrI_u64 n hn]
  simp
theorem wsub (m n : Nat) (h : n ≤ m) (hm : m ≤ 4611686018427387904) : IntKind.wrap .i64 ((m : Int) - (n : Int)) = ((m - n : Nat) : Int) := by
  rw [wrapI (by omega)]
  omega
theorem nbeq (m n : Nat) : ((m : Int) == (n : Int)) = (m == n) := by
  rw [Bool.eq_iff_iff]; simp only [beq_iff_eq]; omega
theorem nbeq0 (m : Nat) : ((m : Int) == 0) = (m == 0) := nbeq m 0
theorem nbne (m n : Nat) : ((m : Int) != (n : Int)) = (m != n) := by
  show (!((m : Int) == (n : Int))) = !(m == n)
  rw [nbeq]
theorem nbne0 (m : Nat) : ((m : Int) != 0) = (m != 0) := nbne m 0
theorem nlt (m n : Nat) : (decide ((m : Int) < (n : Int))) = decide (m < n) := by
  rw [Bool.eq_iff_iff]; simp
theorem nnn (m : Nat) : (decide (0 ≤ (m : Int))) = true := by simp
/-- a pattern's error -/
def chk (f : Int) (a : Nat) : Int := if Fm f then (if a < 2 ^ fW f then 0 else 4) else 2
def eF (f : Int) (a : Nat) : Nat := a / 2 ^ (fP f - 1) % 2 ^ (fW f - fP f)
def mF (f : Int) (a : Nat) : Nat := a % 2 ^ (fP f - 1)
def sF (f : Int) (a : Nat) : Bool := a / 2 ^ (fW f - 1) != 0
def fullF (f : Int) : Nat := 2 ^ (fW f - fP f) - 1
def absF (f : Int) (a : Nat) : Nat := a % 2 ^ (fW f - 1)
theorem T69_ok {f : Int} (h : Fm f) : T69 (f, ()) = some (rowOf f, 0, ()) := by
  rcases Fm_cases h with rfl | rfl | rfl | rfl <;> kernel_rfl
theorem T69_bad {f : Int} (h : ¬ Fm f) : T69 (f, ()) = some ((0, 0, 0, 0, ()), 2, ()) := by
  show t69 f = _
  unfold t69
  have : (decide (f < (0 : Int)) || decide (f ≥ (4 : Int))) = true := by
    simp only [Fm] at h
    simp only [Bool.or_eq_true, decide_eq_true_eq]
    omega
  rw [this]
  rfl
theorem chk_bad {f : Int} (h : ¬ Fm f) (a : Nat) : chk f a = 2 := by unfold chk; rw [if_neg h]
theorem chk_ok {f : Int} (h : Fm f) {a : Nat} (ha : a < 2 ^ fW f) : chk f a = 0 := by unfold chk; rw [if_pos h, if_pos ha]
theorem chk_big {f : Int} (h : Fm f) {a : Nat} (ha : ¬ a < 2 ^ fW f) : chk f a = 4 := by unfold chk; rw [if_pos h, if_neg ha]
theorem chk_zero {f : Int} {a : Nat} (h : chk f a = 0) : Fm f ∧ a < 2 ^ fW f := by
  unfold chk at h
  split at h
  · split at h
    · exact ⟨by assumption, by assumption⟩
    · cases h
  · cases h
theorem div_ne_zero {a n : Nat} : (a / 2 ^ n != 0) = decide (2 ^ n ≤ a) := by
  rw [Bool.eq_iff_iff]
  simp [Nat.div_eq_zero_iff, Nat.two_pow_pos]
theorem T66_eq (f : Int) (a : Nat) (ha : a < 2 ^ 64) : T66 (f, (a : Int), ()) = some (chk f a, ()) := by
  show t66 S69.pre S69.F f a = _
  unfold t66
  by_cases hf : Fm f
  · simp only [pre69 (T69_ok hf), fun69 (T69_ok hf), cond_true, rowOf, nnn, Bool.true_or]
    rw [shrN _ _ (fW_le hf), nbne0, div_ne_zero]
    show (bif decide ((fW f : Int) < ((64 : Nat) : Int)) && _ then _ else _) = _
    rw [nlt]
    have hw := fW_le hf
    by_cases h : a < 2 ^ fW f
    · have : (decide (fW f < 64) && decide (2 ^ fW f ≤ a)) = false := by simp; intro _; exact h
      rw [this, chk_ok hf h]; rfl
    · have : (decide (fW f < 64) && decide (2 ^ fW f ≤ a)) = true := by
        simp only [Bool.and_eq_true, decide_eq_true_eq]
        refine ⟨?_, by omega⟩
        rcases Nat.lt_or_ge (fW f) 64 with h1 | h1
        · exact h1
        · have : fW f = 64 := by omega
          rw [this] at h; omega
      rw [this, chk_big hf h]; rfl
  · simp only [pre69 (T69_bad hf), fun69 (T69_bad hf), cond_true, chk_bad hf]
    rfl
theorem T91_eq (n : Nat) (hn : n ≤ 63) : T91 ((n : Int), ()) = some (((2 ^ n - 1 : Nat) : Int), ()) := by
  show t91 n = _
  unfold t91
  have h2 : 2 ^ n ≤ 2 ^ 63 := Nat.pow_le_pow_right (by omega) hn
  have h1 : 0 < 2 ^ n := Nat.two_pow_pos n
  rw [nnn, cond_true, shlI_one hn]
  generalize 2 ^ n = c at *
  rw [wrapU (by omega)]
  have : (c : Int) - 1 = ((c - 1 : Nat) : Int) := by omega
  rw [this]
theorem T90_eq {f : Int} (hf : Fm f) (a : Nat) (ha : a < 2 ^ 64) : T90 (rowOf f, (a : Int), ()) = some (sF f a, (eF f a : Int), (mF f a : Int), ()) := by
  show t90 S91.pre S91.F (rowOf f) a = _
  unfold t90
  have h1 := fP_ge hf
  have h2 := fP_lt hf
  have h3 := fW_le hf
  have e1 : IntKind.wrap .i64 ((rowOf f).1 - 1) = ((fW f - 1 : Nat) : Int) := wsub (fW f) 1 (by omega) (by omega)
  have e2 : IntKind.wrap .i64 ((rowOf f).2.1 - 1) = ((fP f - 1 : Nat) : Int) := wsub (fP f) 1 (by omega) (by omega)
  have e3 : IntKind.wrap .i64 ((rowOf f).1 - (rowOf f).2.1) = ((fW f - fP f : Nat) : Int) := wsub (fW f) (fP f) (by omega) (by omega)
  have p1 := T91_eq (fW f - fP f) (by omega)
  have p2 := T91_eq (fP f - 1) (by omega)
  rw [e1, e2, e3]
  simp only [nnn, cond_true, pre91 p1, pre91 p2, fun91 p1, fun91 p2]
  rw [shrN _ _ (by omega), shrN _ _ (by omega), andI_mask (Nat.lt_of_le_of_lt (Nat.div_le_self _ _) ha) (by omega), andI_mask ha (by omega), nbne0]
  rfl
/-- a pattern's class -/
def cls (f : Int) (a : Nat) : Int :=
  bif eF f a == fullF f && mF f a == 0 then (bif sF f a then 2 else 9)
  else bif eF f a == fullF f && mF f a / 2 ^ (fP f - 2) != 0 then 1
  else bif eF f a == fullF f then 0
  else bif eF f a == 0 && mF f a == 0 then (bif sF f a then 5 else 6)
  else bif eF f a == 0 then (bif sF f a then 4 else 7)
  else (bif sF f a then 3 else 8)
theorem T65_ok {f : Int} {a : Nat} (ha : a < 2 ^ 64) (h : chk f a = 0) : T65 (f, (a : Int), ()) = some (cls f a, 0, ()) := by
  obtain ⟨hf, h0⟩ := chk_zero h
  show t65 S66.pre S66.F S90.pre S90.F S91.pre S91.F f a = _
  unfold t65
  have h1 := fP_ge hf
  have h2 := fP_lt hf
  have h3 := fW_le hf
  have e3 : IntKind.wrap .i64 ((rowOf f).1 - (rowOf f).2.1) = ((fW f - fP f : Nat) : Int) := wsub (fW f) (fP f) (by omega) (by omega)
  have e4 : IntKind.wrap .i64 ((rowOf f).2.1 - 2) = ((fP f - 2 : Nat) : Int) := wsub (fP f) 2 (by omega) (by omega)
  have p0 := T66_eq f a ha
  have p1 := T91_eq (fW f - fP f) (by omega)
  have p2 := T90_eq hf a ha
  have hr : (decide (0 ≤ f) && decide (f < ((4 : Nat) : Int))) = true := by
    simp only [Bool.and_eq_true, decide_eq_true_eq]; exact hf
  simp only [row_at hf, e3, e4, hr, pre66 p0, fun66 p0, pre91 p1, fun91 p1, pre90 p2, fun90 p2, h, cond_true, nnn, Bool.true_or, bne_self_eq_false, cond_false]
  rw [shrN _ _ (by omega), nbeq, nbeq0, nbeq0, nbne0]
  unfold cls fullF
  generalize (eF f a == 2 ^ (fW f - fP f) - 1) = b1
  generalize (mF f a == 0) = b2
  generalize (mF f a / 2 ^ (fP f - 2) != 0) = b3
  generalize (eF f a == 0) = b4
  generalize sF f a = b5
  cases b1 <;> cases b2 <;> cases b3 <;> cases b4 <;> cases b5 <;> rfl
theorem T65_bad {f : Int} {a : Nat} (ha : a < 2 ^ 64) (h : chk f a ≠ 0) : T65 (f, (a : Int), ()) = some (0, chk f a, ()) := by
  show t65 S66.pre S66.F S90.pre S90.F S91.pre S91.F f a = _
  unfold t65
  have p0 := T66_eq f a ha
  have : (chk f a != 0) = true := by simpa using h
  simp only [pre66 p0, fun66 p0, this, cond_true]
theorem T115_ok {f : Int} (hf : Fm f) : T115 (f, ()) = some (((2 ^ (fW f - 1) : Nat) : Int), ()) := by
  rcases Fm_cases hf with rfl | rfl | rfl | rfl <;> kernel_rfl
theorem T112_ok {f : Int} {a : Nat} (ha : a < 2 ^ 64) (h : chk f a = 0) : T112 (f, (a : Int), ()) = some ((absF f a : Int), 0, ()) := by
  obtain ⟨hf, h0⟩ := chk_zero h
  show t112 S66.pre S66.F S115.pre S115.F f a = _
  unfold t112
  have h2 := fP_lt hf
  have h3 := fW_le hf
  have p0 := T66_eq f a ha
  have p1 := T115_ok hf
  simp only [pre66 p0, fun66 p0, pre115 p1, fun115 p1, h, cond_true, bne_self_eq_false, cond_false]
  rw [andNotI_bit (by omega) (by rw [Nat.sub_add_cancel (by omega)]; exact h0)]
  rfl
/-- where a number stands among the patterns -/
def place (f : Int) (a : Nat) : Int := bif sF f a then -(absF f a : Int) else absF f a
theorem abs_lt (f : Int) (hf : Fm f) (a : Nat) : absF f a < 2 ^ 63 := by
  have h3 := fW_le hf
  exact Nat.lt_of_lt_of_le (Nat.mod_lt _ (Nat.two_pow_pos _)) (Nat.pow_le_pow_right (by omega) (by omega))
theorem abs_ne {f : Int} (a : Nat) : ((absF f a : Int) != (a : Int)) = sF f a := by
  rw [nbne]
  unfold absF sF
  rw [div_ne_zero, Bool.eq_iff_iff]
  simp only [bne_iff_ne, ne_eq, decide_eq_true_eq]
  constructor
  · intro h
    rcases Nat.lt_or_ge a (2 ^ (fW f - 1)) with h1 | h1
    · exact absurd (Nat.mod_eq_of_lt h1) h
    · exact h1
  · intro h h1
    have := Nat.mod_lt a (Nat.two_pow_pos (fW f - 1))
    omega
theorem T82_ok {f : Int} {a : Nat} (ha : a < 2 ^ 64) (h : chk f a = 0) : T82 (f, (a : Int), ()) = some ((cls f a, place f a, ()), 0, ()) := by
  show t82 S65.pre S65.F S112.pre S112.F f a = _
  unfold t82
  have hl := abs_lt f (chk_zero h).1 a
  have p0 := T65_ok ha h
  have p1 := T112_ok ha h
  simp only [pre65 p0, fun65 p0, pre112 p1, fun112 p1, cond_true, bne_self_eq_false, cond_false, abs_ne]
  rw [wrapI (n := (absF f a : Int)) (by omega), wrapI (by omega)]
  unfold place
  cases sF f a
  · rfl
  · simp
theorem T82_bad {f : Int} {a : Nat} (ha : a < 2 ^ 64) (h : chk f a ≠ 0) : T82 (f, (a : Int), ()) = some ((0, 0, ()), chk f a, ()) := by
  show t82 S65.pre S65.F S112.pre S112.F f a = _
  unfold t82
  have p0 := T65_bad ha h
  have : (chk f a != 0) = true := by simpa using h
  simp only [pre65 p0, fun65 p0, this, cond_true]
/-- not a number; a signalling one -/
def nan (f : Int) (a : Nat) : Bool := eF f a == fullF f && mF f a != 0
def snan (f : Int) (a : Nat) : Bool := nan f a && mF f a / 2 ^ (fP f - 2) == 0
theorem cls_nan (f : Int) (a : Nat) : (cls f a == 1 || cls f a == 0) = nan f a := by
  unfold cls nan
  simp only [bne]
  cases eF f a == fullF f <;> cases mF f a == 0 <;> cases sF f a <;> cases eF f a == 0 <;> cases mF f a / 2 ^ (fP f - 2) == 0 <;> rfl
theorem cls_snan (f : Int) (a : Nat) : (cls f a == 0) = snan f a := by
  unfold cls snan nan
  simp only [bne]
  cases eF f a == fullF f <;> cases hm : mF f a == 0 <;> cases sF f a <;> cases eF f a == 0 <;> cases mF f a / 2 ^ (fP f - 2) == 0 <;> rfl
theorem T53_eq (x : Den (.pair (.int .i64) (.pair (.int .i64) .unit))) : T53 (x, ()) = some ((x.1 == 1 || x.1 == 0), ()) := rfl
theorem T54_eq (x y : Den (.pair (.int .i64) (.pair (.int .i64) .unit))) : T54 (x, y, ()) = some ((bif x.1 == 0 || y.1 == 0 then 1 else 0), ()) := by
  show t54 x y = _
  unfold t54
  cases (x.1 == (0 : Int) || y.1 == (0 : Int)) <;> rfl
end VL
namespace VL
open Go Vx
theorem T131_ok {f : Int} (h : Fm f) : T131 (f, ()) = some (rowOf f, true, ()) := by
  rcases Fm_cases h with rfl | rfl | rfl | rfl <;> kernel_rfl
theorem T131_bad {f : Int} (h : ¬ Fm f) : T131 (f, ()) = some ((0, 0, 0, 0, ()), false, ()) := by
  show t131 f = _
  unfold t131
  simp only [Fm] at h
  have h0 : (f == (0 : Int)) = false := by simp; omega
  have h1 : (f == (1 : Int)) = false := by simp; omega
  have h2 : (f == (2 : Int)) = false := by simp; omega
  have h3 : (f == (3 : Int)) = false := by simp; omega
  rw [h0, h1, h2, h3]; rfl
theorem T108_eq (f : Int) (a : Nat) (ha : a < 2 ^ 64) : T108 (f, (a : Int), ()) = some (chk f a, ()) := by
  show t108 S131.pre S131.F f a = _
  unfold t108
  by_cases hf : Fm f
  · simp only [pre131 (T131_ok hf), fun131 (T131_ok hf), cond_true, rowOf, Bool.not_true, cond_false]
    have hw := fW_le hf
    rw [wrapU (by omega), shrN _ _ hw, nbne0, div_ne_zero]
    show (bif decide ((fW f : Int) < ((64 : Nat) : Int)) && _ then _ else _) = _
    rw [nlt]
    by_cases h : a < 2 ^ fW f
    · have : (decide (fW f < 64) && decide (2 ^ fW f ≤ a)) = false := by simp; intro _; exact h
      rw [this, chk_ok hf h]; rfl
    · have : (decide (fW f < 64) && decide (2 ^ fW f ≤ a)) = true := by
        simp only [Bool.and_eq_true, decide_eq_true_eq]
        refine ⟨?_, by omega⟩
        rcases Nat.lt_or_ge (fW f) 64 with h1 | h1
        · exact h1
        · have : fW f = 64 := by omega
          rw [this] at h; omega
      rw [this, chk_big hf h]; rfl
  · simp only [pre131 (T131_bad hf), fun131 (T131_bad hf), cond_true, chk_bad hf]
    rfl
def sgn (f : Int) (a : Nat) : Nat := a / 2 ^ (fW f - 1) % 2
theorem full_eq {f : Int} (hf : Fm f) : IntKind.wrap .u64 (IntKind.wrap .i64 (IntKind.wrap .i64 (2 * (fX f : Int)) + 1)) = ((fullF f : Nat) : Int) := by
  have h := fX_le hf
  have e := fX_eq hf
  unfold fullF
  rw [wrapI (n := 2 * (fX f : Int)) (by omega), wrapI (by omega), wrapU (by omega)]
  omega
theorem T113_eq {f : Int} (hf : Fm f) {a : Nat} (ha : a < 2 ^ 64) : T113 (f, (a : Int), ()) = some ((sgn f a : Int), (eF f a : Int), (mF f a : Int), (fullF f : Int), ()) := by
  show t113 S131.pre S131.F f a = _
  unfold t113
  have h1 := fP_ge hf
  have h2 := fP_lt hf
  have h3 := fW_le hf
  have e1 : IntKind.wrap .i64 ((rowOf f).1 - 1) = ((fW f - 1 : Nat) : Int) := wsub (fW f) 1 (by omega) (by omega)
  have e2 : IntKind.wrap .i64 ((rowOf f).2.1 - 1) = ((fP f - 1 : Nat) : Int) := wsub (fP f) 1 (by omega) (by omega)
  have e5 : IntKind.wrap .u64 ((fW f - 1 : Nat) : Int) = ((fW f - 1 : Nat) : Int) := wrapU (by omega)
  have e6 : IntKind.wrap .u64 ((fP f - 1 : Nat) : Int) = ((fP f - 1 : Nat) : Int) := wrapU (by omega)
  have e7 : IntKind.wrap .u64 (IntKind.wrap .i64 (IntKind.wrap .i64 (2 * (rowOf f).2.2.2.1) + 1)) = ((2 ^ (fW f - fP f) - 1 : Nat) : Int) := full_eq hf
  have e8 : (((2 ^ (fP f - 1) : Nat) : Int) != 0) = true := by
    rw [nbne0]
    have := Nat.two_pow_pos (fP f - 1)
    simp only [bne_iff_ne, ne_eq]; omega
  simp only [pre131 (T131_ok hf), fun131 (T131_ok hf), cond_true, e1, e2, e5, e6, e7]
  rw [shlI_one (by omega), e8, cond_true, shrN _ _ (by omega), shrN _ _ (by omega), andI_mask (Nat.lt_of_le_of_lt (Nat.div_le_self _ _) ha) (by omega)]
  have e9 : andI .u64 ((a / 2 ^ (fW f - 1) : Nat) : Int) 1 = ((a / 2 ^ (fW f - 1) % 2 ^ 1 : Nat) : Int) := andI_mask (n := 1) (Nat.lt_of_le_of_lt (Nat.div_le_self _ _) ha) (by omega)
  rw [e9]
  rfl
theorem T109_eq {f : Int} (hf : Fm f) {a : Nat} (ha : a < 2 ^ 64) : T109 (f, (a : Int), ()) = some (nan f a, ()) := by
  show t109 S113.pre S113.F f a = _
  unfold t109
  have p0 := T113_eq hf ha
  simp only [pre113 p0, fun113 p0, cond_true, nbeq, nbne0]
  rfl
theorem T110_eq {f : Int} (hf : Fm f) {a : Nat} (ha : a < 2 ^ 64) : T110 (f, (a : Int), ()) = some (snan f a, ()) := by
  show t110 S131.pre S131.F S113.pre S113.F S109.pre S109.F f a = _
  unfold t110
  have h1 := fP_ge hf
  have h2 := fP_lt hf
  have h3 := fW_le hf
  have p0 := T113_eq hf ha
  have p1 := T109_eq hf ha
  have p2 := T131_ok hf
  have e4 : IntKind.wrap .i64 ((rowOf f).2.1 - 2) = ((fP f - 2 : Nat) : Int) := wsub (fP f) 2 (by omega) (by omega)
  have e5 : IntKind.wrap .u64 ((fP f - 2 : Nat) : Int) = ((fP f - 2 : Nat) : Int) := wrapU (by omega)
  simp only [pre113 p0, fun113 p0, pre109 p1, fun109 p1, pre131 p2, fun131 p2, cond_true, e4, e5]
  rw [shrN _ _ (by omega), nbeq0]
  rfl
/-- the flag of operands that aren't numbers -/
def nans (f : Int) (l : List Nat) : Bool × Int × Unit := (l.any (nan f), (bif l.any (snan f) then 1 else 0), ())
theorem W56_eq {f : Int} (hf : Fm f) (l : List Nat) (hl : ∀ a ∈ l, a < 2 ^ 64) (hlen : l.length < 1000000) (i : Nat) (s : Bool) (g : Int) (hi : i ≤ l.length) :
    W56_3 (((l.length : Int), (l.map (fun a : Nat => (a : Int)), (f, ((i : Int), (s, (g, ())))))), ()) = some (.inl ((s || (l.drop i).any (nan f), (bif (l.drop i).any (snan f) then 1 else g), ()), ())) := by
  have key := lfix_ind (m56_3 S109.pre S109.F S110.pre S110.F) (fun x => l.length - x.1.2.2.2.1.toNat)
    (fun x => ∃ (i : Nat) (s : Bool) (g : Int), i ≤ l.length ∧ x = (((l.length : Int), (l.map (fun a : Nat => (a : Int)), (f, ((i : Int), (s, (g, ())))))), ()))
    (fun x => .inl ((x.1.2.2.2.2.1 || (l.drop x.1.2.2.2.1.toNat).any (nan f), (bif (l.drop x.1.2.2.2.1.toNat).any (snan f) then 1 else x.1.2.2.2.2.2.1), ()), ()))
    ?_ (((l.length : Int), (l.map (fun a : Nat => (a : Int)), (f, ((i : Int), (s, (g, ())))))), ()) ⟨i, s, g, hi, rfl⟩
  · exact key
  intro L x hx hL
  obtain ⟨i, s, g, hi, rfl⟩ := hx
  unfold h56_3
  simp only [nlt, Int.toNat_natCast]
  by_cases hlt : i < l.length
  · have hm : l[i] ∈ l := List.getElem_mem hlt
    have hg : (l.map (fun a : Nat => (a : Int))).getD i 0 = ((l[i] : Nat) : Int) := by
      simp [List.getD_eq_getElem?_getD, hlt]
    have p0 := T109_eq hf (hl _ hm)
    have p1 := T110_eq hf (hl _ hm)
    have e1 : (decide (i < l.length)) = true := by simpa using hlt
    have e2 : (decide ((0 : Int) ≤ (i : Int)) && decide (i < (l.map (fun a : Nat => (a : Int))).length)) = true := by simp; omega
    have e3 : IntKind.wrap .i64 ((i : Int) + 1) = ((i + 1 : Nat) : Int) := by rw [wrapI (by omega)]; omega
    have hd : l.drop i = l[i] :: l.drop (i + 1) := List.drop_eq_getElem_cons hlt
    simp only [e1, e2, e3, hg, pre109 p0, fun109 p0, pre110 p1, fun110 p1, cond_true, Bool.true_or, hd, List.any_cons]
    rw [hL _ ⟨i + 1, _, 1, by omega, rfl⟩ (by simp only [Int.toNat_natCast]; omega), hL _ ⟨i + 1, _, g, by omega, rfl⟩ (by simp only [Int.toNat_natCast]; omega)]
    simp only [Int.toNat_natCast]
    cases snan f l[i]
    · simp only [cond_false, Bool.false_or, Bool.or_assoc]
    · simp only [cond_true, Bool.true_or, Bool.or_assoc]
      cases (l.drop (i + 1)).any (snan f) <;> rfl
  · have e1 : (decide (i < l.length)) = false := by simpa using hlt
    have hd : l.drop i = [] := List.drop_eq_nil_of_le (by omega)
    simp only [e1, cond_false, hd, List.any_nil, Bool.or_false]
theorem T56_eq {f : Int} (hf : Fm f) (l : List Nat) (hl : ∀ a ∈ l, a < 2 ^ 64) (hlen : l.length < 1000000) : T56 (f, l.map (fun a : Nat => (a : Int)), ()) = some (nans f l) := by
  show t56 S109.pre S109.F S110.pre S110.F W56_3 f (l.map (fun a : Nat => (a : Int))) = _
  unfold t56
  have := W56_eq hf l hl hlen 0 false 0 (Nat.zero_le _)
  rw [List.length_map]
  rw [show ((0 : Int)) = ((0 : Nat) : Int) from rfl]
  erw [this]
  rfl
theorem T59_eq {f : Int} (hf : Fm f) {a : Nat} (ha : a < 2 ^ 64) : T59 (f, (a : Int), ()) = some ((sgn f a : Int), ()) := by
  show t59 S113.pre S113.F f a = _
  unfold t59
  have p0 := T113_eq hf ha
  simp only [pre113 p0, fun113 p0, cond_true]
theorem sgn_eq {f : Int} {a : Nat} (h : chk f a = 0) : (sgn f a == 1) = sF f a := by
  obtain ⟨hf, h0⟩ := chk_zero h
  have h2 := fP_lt hf
  unfold sgn sF
  have : a / 2 ^ (fW f - 1) < 2 := by
    rw [Nat.div_lt_iff_lt_mul (Nat.two_pow_pos _)]
    have : 2 ^ fW f = 2 * 2 ^ (fW f - 1) := by rw [← Nat.pow_succ']; congr 1; omega
    omega
  rw [Nat.mod_eq_of_lt this]
  generalize a / 2 ^ (fW f - 1) = q at this ⊢
  match q, this with
  | 0, _ => rfl
  | 1, _ => rfl
end VL
namespace VL
open Go Vx
theorem pow_split {f : Int} (hf : Fm f) : 2 ^ (fW f - 1) = 2 ^ (fP f - 1) * 2 ^ (fW f - fP f) := by
  have h1 := fP_ge hf
  have h2 := fP_lt hf
  rw [← Nat.pow_add]
  congr 1
  omega
theorem abs_eq {f : Int} (hf : Fm f) (a : Nat) : absF f a = mF f a + 2 ^ (fP f - 1) * eF f a := by
  unfold absF mF eF
  rw [pow_split hf, Nat.mod_mul]
theorem zero_iff {f : Int} (hf : Fm f) (a : Nat) : absF f a = 0 ↔ eF f a = 0 ∧ mF f a = 0 := by
  rw [abs_eq hf]
  have := Nat.two_pow_pos (fP f - 1)
  constructor
  · intro h
    have h1 : 2 ^ (fP f - 1) * eF f a = 0 := by omega
    rcases Nat.mul_eq_zero.1 h1 with h2 | h2
    · omega
    · exact ⟨h2, by omega⟩
  · rintro ⟨h1, h2⟩
    rw [h1, h2]; rfl
/-- the canonical pattern that isn't a number -/
def nanF (f : Int) : Nat := 2 ^ (fW f - 1) - 2 ^ (fP f - 2)
theorem T70_ok {f : Int} (hf : Fm f) : T70 (f, ()) = some ((nanF f : Int), 0, ()) := by
  rcases Fm_cases hf with rfl | rfl | rfl | rfl <;> kernel_rfl
theorem T84_ok {f : Int} (hf : Fm f) : T84 (f, ()) = some ((nanF f : Int), ()) := by
  rcases Fm_cases hf with rfl | rfl | rfl | rfl <;> kernel_rfl
end VL
namespace VL
open Go Vx
theorem pat_lt {f : Int} {a : Nat} (h : chk f a = 0) : a < 2 ^ 64 := by
  obtain ⟨hf, h0⟩ := chk_zero h
  exact Nat.lt_of_lt_of_le h0 (Nat.pow_le_pow_right (by omega) (fW_le hf))
end VL
namespace VL
open Go Vx
/-- the number of digits, the lowest first -/
def nv (B : Nat) : List Nat → Nat
  | [] => 0
  | x :: r => x + B * nv B r
/-- without zeros at the end -/
def trimL : List Nat → List Nat
  | [] => []
  | x :: r => match trimL r with
    | [] => if x = 0 then [] else [x]
    | y :: t => x :: y :: t
/-- a number's digits -/
def dg (B : Nat) (n : Nat) : List Nat :=
  if h : n = 0 ∨ B < 2 then [] else n % B :: dg B (n / B)
termination_by n
decreasing_by exact Nat.div_lt_self (by omega) (by omega)
theorem dg_zero (B : Nat) : dg B 0 = [] := by rw [dg]; simp
theorem dg_pos {B n : Nat} (hB : 2 ≤ B) (hn : 0 < n) : dg B n = n % B :: dg B (n / B) := by
  rw [dg]; rw [dif_neg (by omega)]
theorem dg_lt {B : Nat} (hB : 2 ≤ B) : ∀ (n : Nat), ∀ x ∈ dg B n, x < B := by
  intro n
  induction n using Nat.strongRecOn with
  | ind n ih =>
    intro x hx
    rcases Nat.eq_zero_or_pos n with rfl | hn
    · rw [dg_zero] at hx; simp at hx
    · rw [dg_pos hB hn] at hx
      rcases List.mem_cons.1 hx with rfl | hx
      · exact Nat.mod_lt _ (by omega)
      · exact ih (n / B) (Nat.div_lt_self hn (by omega)) x hx
theorem nv_dg {B : Nat} (hB : 2 ≤ B) : ∀ (n : Nat), nv B (dg B n) = n := by
  intro n
  induction n using Nat.strongRecOn with
  | ind n ih =>
    rcases Nat.eq_zero_or_pos n with rfl | hn
    · rw [dg_zero]; rfl
    · rw [dg_pos hB hn]
      simp only [nv]
      rw [ih (n / B) (Nat.div_lt_self hn (by omega))]
      exact Nat.mod_add_div n B
theorem dg_cons {B x v : Nat} (hB : 2 ≤ B) (hx : x < B) (h : 0 < x + B * v) : dg B (x + B * v) = x :: dg B v := by
  rw [dg_pos hB h, Nat.add_mul_mod_self_left, Nat.mod_eq_of_lt hx, Nat.add_mul_div_left _ _ (by omega), Nat.div_eq_of_lt hx, Nat.zero_add]
theorem trim_dg {B : Nat} (hB : 2 ≤ B) : ∀ (l : List Nat), (∀ x ∈ l, x < B) → trimL l = dg B (nv B l)
  | [], _ => by simp only [nv]; rw [dg_zero]; rfl
  | x :: r, h => by
    have ih := trim_dg hB r fun y hy => h y (by simp [hy])
    simp only [trimL, nv]
    rcases Nat.eq_zero_or_pos (nv B r) with h0 | h0
    · rw [ih, h0, dg_zero, Nat.mul_zero, Nat.add_zero]
      simp only
      rcases Nat.eq_zero_or_pos x with rfl | hx
      · rw [dg_zero]; rfl
      · rw [if_neg (by omega)]
        have := dg_cons (v := 0) hB (h x (by simp)) (by omega)
        rw [Nat.mul_zero, Nat.add_zero, dg_zero] at this
        exact this.symm
    · have hp : 0 < B * nv B r := Nat.mul_pos (by omega) h0
      rw [dg_cons hB (h x (by simp)) (by omega), ih]
      rw [dg_pos hB h0]
theorem trim_len : ∀ (l : List Nat), (trimL l).length ≤ l.length ∧ trimL l = l.take (trimL l).length
  | [] => ⟨Nat.le_refl _, rfl⟩
  | x :: r => by
    obtain ⟨h1, h2⟩ := trim_len r
    simp only [trimL]
    cases e : trimL r with
    | nil =>
      simp only
      split
      · exact ⟨by simp, rfl⟩
      · exact ⟨by simp, rfl⟩
    | cons y t =>
      rw [e] at h1 h2
      simp only
      refine ⟨by simp at h1 ⊢; omega, ?_⟩
      simp only [List.length_cons, List.take_succ_cons]
      congr 1
theorem trim_out : ∀ (l : List Nat) (i : Nat), (trimL l).length ≤ i → l.getD i 0 = 0
  | [], i, _ => by simp
  | x :: r, i, h => by
    have ih := trim_out r
    simp only [trimL] at h
    cases e : trimL r with
    | nil =>
      rw [e] at h ih
      simp only at h
      cases i with
      | zero =>
        split at h
        · rename_i hx; simp [hx]
        · simp at h
      | succ i => simpa using ih i (by simp)
    | cons y t =>
      rw [e] at h ih
      simp only at h
      cases i with
      | zero => simp at h
      | succ i => simpa using ih i (by simpa using h)
theorem trim_last : ∀ (l : List Nat), 0 < (trimL l).length → l.getD ((trimL l).length - 1) 0 ≠ 0
  | [], h => by simp [trimL] at h
  | x :: r, h => by
    have ih := trim_last r
    simp only [trimL] at h ⊢
    cases e : trimL r with
    | nil =>
      rw [e] at h
      simp only at h ⊢
      split at h
      · simp at h
      · rename_i hx; rw [if_neg hx]; simpa using hx
    | cons y t =>
      rw [e] at ih
      simp only [List.length_cons] at ih ⊢
      have := ih (by simp)
      simpa using this
/-- words as the program has them -/
def Wd (l : List Nat) : List Int := l.map fun n : Nat => (n : Int)
theorem Wd_len (l : List Nat) : (Wd l).length = l.length := by simp [Wd]
theorem Wd_getD (l : List Nat) (i : Nat) : (Wd l).getD i 0 = ((l.getD i 0 : Nat) : Int) := by
  unfold Wd
  rw [List.getD_eq_getElem?_getD, List.getD_eq_getElem?_getD, List.getElem?_map]
  cases l[i]? <;> simp
theorem Wd_take (l : List Nat) (n : Nat) : (Wd l).take n = Wd (l.take n) := by simp [Wd, List.map_take]
theorem Wd_set (l : List Nat) (i n : Nat) : (Wd l).set i (n : Int) = Wd (l.set i n) := by simp [Wd, List.map_set]
theorem Wd_rep (n : Nat) : List.replicate n (0 : Int) = Wd (List.replicate n 0) := by simp [Wd]
end VL
namespace Vx
open Go
abbrev sig3 : Sig := [(false, .int .u64), (false, .int .u64), (false, .int .u64)]
abbrev sig2 : Sig := [(false, .int .u64), (false, .int .u64)]
/-- a sum with a carry -/
noncomputable def addSum : Sum := { ins := sig3, outs := sig2, pre := fun x => decide (0 ≤ x.2.2.1) && decide (x.2.2.1 ≤ 1), F := fun x => ((x.1 + x.2.1 + x.2.2.1) % 18446744073709551616, (x.1 + x.2.1 + x.2.2.1) / 18446744073709551616, ()) }
theorem ext_sound {P : Program} {G : List (Nat × Sigma fun τ => List (Den τ))} {f : FuncId} {fn : Func} {e : Array Value → Sem Value} (hf : P.funcs[f]? = some fn) (hname : (fn.name == "runtime.NumGoroutine") = false)
    (hb : fn.body.isNone = true) (hn : Extern.findNext fn = none) (he : Extern.find fn = some e) {pre : DenS sig3 → Bool} {F : DenS sig3 → DenS sig2}
    (h : ∀ x y c : Int, pre (x, y, c, ()) = true → 0 ≤ x → x ≤ 18446744073709551615 → 0 ≤ y → y ≤ 18446744073709551615 → ∀ w, (e #[.int .u64 x, .int .u64 y, .int .u64 c]).run P w = .ok (.tuple #[.int .u64 (F (x, y, c, ())).1, .int .u64 (F (x, y, c, ())).2.1]) w ∧
      (0 ≤ (F (x, y, c, ())).1 ∧ (F (x, y, c, ())).1 ≤ 18446744073709551615) ∧ 0 ≤ (F (x, y, c, ())).2.1 ∧ (F (x, y, c, ())).2.1 ≤ 18446744073709551615) : Sound P G f { ins := sig3, outs := sig2, pre, F } := by
  refine ⟨fun z hz w St ys rs hSt _ hr hnd hrs => .inr ?_⟩
  obtain ⟨y1, l1, r1, q1, rfl, rfl, ⟨rfl, h1⟩, y2, l2, r2, q2, rfl, rfl, ⟨rfl, h2⟩, y3, l3, r3, q3, rfl, rfl, ⟨rfl, h3⟩, rfl, rfl⟩ := hr
  obtain ⟨x, y, c, ⟨⟩⟩ := z
  obtain ⟨e1, b1⟩ := h1
  obtain ⟨e2, b2⟩ := h2
  obtain ⟨e3, b3⟩ := h3
  cases e1; cases e2; cases e3
  obtain ⟨g1, g2, g3⟩ := h x y c hz b1.1 b1.2 b2.1 b2.2 w
  refine ⟨_, by rw [run_callFunc_extern hf hname hb hn he]; show ((e #[_, _, _]).run P w).andThen _ = _; rw [g1]; rfl, [.int .u64 (F (x, y, c, ())).1, .int .u64 (F (x, y, c, ())).2.1], [], rfl, ⟨rfl, rfl, rfl, Nat.le_refl _, fun _ _ _ => rfl⟩, fun r hr => by simp at hr, List.nodup_nil, ?_⟩
  exact ⟨_, _, [], [], rfl, rfl, ⟨rfl, rfl, g2⟩, _, _, [], [], rfl, rfl, ⟨rfl, rfl, g3⟩, rfl, rfl⟩
theorem add_sound {P : Program} {G : List (Nat × Sigma fun τ => List (Den τ))} {f : FuncId} {fn : Func} (hf : P.funcs[f]? = some fn) (hname : (fn.name == "runtime.NumGoroutine") = false)
    (hb : fn.body.isNone = true) (hn : Extern.findNext fn = none) (he : Extern.find fn = some add64Entry) : Sound P G f addSum :=
  ext_sound hf hname hb hn he fun x y c hp hx hx' hy hy' w => by
    have hp : (decide (0 ≤ c) && decide (c ≤ 1)) = true := hp
    simp only [Bool.and_eq_true, decide_eq_true_eq] at hp
    refine ⟨run_add64 x y c hx hy hp.1 hp.2 w, ?_, ?_⟩
    · show 0 ≤ (x + y + c) % 18446744073709551616 ∧ (x + y + c) % 18446744073709551616 ≤ 18446744073709551615
      omega
    · show 0 ≤ (x + y + c) / 18446744073709551616 ∧ (x + y + c) / 18446744073709551616 ≤ 18446744073709551615
      omega
end Vx
