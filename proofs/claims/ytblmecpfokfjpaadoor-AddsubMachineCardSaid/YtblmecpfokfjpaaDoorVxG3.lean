/- Part 3 of the proof. What is proved: symbolic execution of the functions, proved sound; what each function of the program computes, and that every run ends with it; what these functions compute, in plain numbers. Conditions: each theorem bears its own. -/
import Derived.Test.YtblmecpfokfjpaaDoorVxG2
import Derived.Laws.Sem
import Derived.Laws.Externs
import Derived.Test.YtblmecpfokfjpaaDoorProg
set_option linter.all false
set_option exponentiation.threshold 1000000
namespace Vx
open Go Go.RowKit
variable {C : Cfg} {base : Base} {S0 : Nat → Prop} {s0 : St} {S : Nat → St} {xs : Nat → TV} {fs : Nat → FP}
theorem headLen_le : ∀ (l : List Oper), headLen l ≤ l.length
  | [] => Nat.le_refl _
  | o :: r => by
    simp only [headLen]
    cases Nat.blt (memKind o.op) 3 with
    | true => simp only [cond_true, List.length_cons]; have := headLen_le r; omega
    | false => simp
theorem allIn_spec {l : List Nat} : ∀ {n : Nat}, allIn l n = true → ∀ j, j < n → j ∈ l
  | 0, _, j, h => by omega
  | n + 1, h, j, hj => by
    simp only [allIn, Bool.and_eq_true] at h
    rcases Nat.lt_or_ge j n with h1 | h1
    · exact allIn_spec h.2 j h1
    · have : j = n := by omega
      subst this
      exact memB_iff.1 h.1
theorem tailRest_spec : ∀ {l : List Oper} {i : Nat}, tailRest i l = true → ∀ k o, l[k]? = some o → o.guard = none ∧ i + k ∈ preds o ∧ ∀ p ∈ preds o, p < i + k + 1
  | [], i, _, k, o, h => by simp at h
  | x :: r, i, h, k, o, hk => by
    simp only [tailRest, Bool.and_eq_true] at h
    cases k with
    | zero =>
      simp at hk; subst hk
      refine ⟨?_, memB_iff.1 h.1.1.2, allLt_iff h.1.2⟩
      have := h.1.1.1
      unfold noGuard at this
      split at this
      · assumption
      · cases this
    | succ k =>
      have := tailRest_spec h.2 k o (by simpa using hk)
      exact ⟨this.1, by rw [show i + (k + 1) = i + 1 + k by omega]; exact this.2.1, by rw [show i + (k + 1) + 1 = i + 1 + k + 1 by omega]; exact this.2.2⟩
/-- what is listed is a beginning, and what comes is a row: each in its turn -/
theorem tail_any {opsA : Array Oper} {Q : Exit → Act → World → Prop} {n : Nat} (hrest : ∀ i o, n < i → opsA[i]? = some o → i - 1 ∈ preds o) (hbefore : ∀ i o, n ≤ i → opsA[i]? = some o → ∀ p ∈ preds o, p < i) :
    ∀ (fuel k : Nat) (listed : Array Bool) (a : Act) (w : World), n ≤ k → listed.size = opsA.size → (∀ i, listed.getD i false = true ↔ i < k) → k ≤ opsA.size → opsA.size - k ≤ fuel →
      wpList C.P opsA Q (opsA.toList.drop k) a w → wpAny C.P .any opsA Q fuel listed a w := by
  intro fuel
  have hready : ∀ (k : Nat) (listed : Array Bool), n ≤ k → listed.size = opsA.size → (∀ i, listed.getD i false = true ↔ i < k) → ∀ i ∈ Region.ready .any opsA listed, i = k := fun k listed hnk hs hl i hi => by
    obtain ⟨h1, o, ho, hall⟩ := mem_ready.1 hi
    have hil : i < opsA.size := (Array.getElem?_eq_some_iff.1 ho).1
    have hil' : i < listed.size := by omega
    have hni : ¬ i < k := fun h => by
      have := (hl i).2 h
      simp [Array.getD, hil'] at h1 this
      rw [this] at h1; cases h1
    rcases Nat.lt_or_ge k i with hki | hki
    · exfalso
      have := hrest i o (by omega) ho
      obtain ⟨e, he, hb, hon⟩ := mem_preds.1 this
      have := (hl e.on).1 (hall e he hb)
      omega
    · omega
  induction fuel with
  | zero =>
    intro k listed a w hnk hs hl hk hf hw
    have hke : k = opsA.size := by omega
    subst hke
    have hdrop : opsA.toList.drop opsA.size = [] := by simp
    rw [hdrop] at hw
    refine ⟨?_, hw⟩
    cases hr : Region.ready .any opsA listed with
    | nil => rfl
    | cons i r =>
      exfalso
      have hi : i ∈ Region.ready .any opsA listed := by rw [hr]; simp
      have := hready _ listed hnk hs hl i hi
      obtain ⟨_, o, ho, _⟩ := mem_ready.1 hi
      have := (Array.getElem?_eq_some_iff.1 ho).1
      omega
  | succ fuel ih =>
    intro k listed a w hnk hs hl hk hf hw
    rcases Nat.lt_or_ge k opsA.size with hlt | hge
    · have hget : opsA[k]? = some opsA[k] := by simp [hlt]
      have hdrop : opsA.toList.drop k = opsA[k] :: opsA.toList.drop (k + 1) := by
        rw [List.drop_eq_getElem_cons (by simpa using hlt)]; simp
      rw [hdrop] at hw
      refine ⟨fun hnil => ?_, fun i hi => ?_⟩
      · exfalso
        have : k ∈ Region.ready .any opsA listed := by
          rw [mem_ready]
          have hil : k < listed.size := by omega
          refine ⟨?_, opsA[k], hget, fun e he hbd => ?_⟩
          · have h0 : ¬ listed.getD k false = true := fun h => absurd ((hl k).1 h) (Nat.lt_irrefl _)
            simpa [Array.getD, hil] using h0
          · exact (hl e.on).2 (hbefore k opsA[k] hnk hget e.on (mem_preds.2 ⟨e, he, hbd, rfl⟩))
        rw [hnil] at this; simp at this
      · have := hready k listed hnk hs hl i hi
        subst this
        have hil' : i < listed.size := by omega
        have hset : ∀ j, (listed.setIfInBounds i true).getD j false = true ↔ j < i + 1 := fun j => by
          by_cases hj : j = i
          · subst hj; simp [Array.getD, hil']
          · rw [Array.getD_eq_getD_getElem?, Array.getElem?_setIfInBounds_ne (fun e => hj e.symm), ← Array.getD_eq_getD_getElem?, hl j]
            omega
        simp only [wpList] at hw
        unfold wpOp
        rw [hget]
        simp only
        split
        · rename_i hwant
          rw [if_pos hwant] at hw
          rcases hw with hw | hw
          · exact .inl (Oper.wp_mono (fun a' w' h => ih (i + 1) _ a' w' (by omega) (by simpa using hs) hset hlt (by omega) h) hw)
          · exact .inr hw
        · rename_i hwant
          rw [if_neg hwant] at hw
          exact ih (i + 1) _ _ w (by omega) (by simpa using hs) hset hlt (by omega) hw
    · have hke : k = opsA.size := by omega
      subst hke
      have hdrop : opsA.toList.drop opsA.size = [] := by simp
      rw [hdrop] at hw
      refine ⟨fun _ => hw, fun i hi => ?_⟩
      exfalso
      have := hready _ listed hnk hs hl i hi
      obtain ⟨_, o, ho, _⟩ := mem_ready.1 hi
      have := (Array.getElem?_eq_some_iff.1 ho).1
      omega
/-- the draw of the head, then the tail -/
theorem draw_head (hC : SumsOk C) {opsA : Array Oper} {n : Nat} (hn : n ≤ opsA.size) (hR : Reg C (opsA.toList.take n) s0 S xs fs) (hT : tailOk (opsA.toList.take n) n (opsA.toList.drop n) = true) {σ0 : Sit} (hG0 : GlobsOk C.globs σ0.w σ0.S) {Q : Exit → Act → World → Prop}
    (hQ : ∀ σ' a', Ok base S0 σ' → Adv σ0 σ' → RelT σ' (S n) a' → wpList C.P opsA Q (opsA.toList.drop n) a' σ'.w) :
    ∀ (fuel : Nat) (listed : Array Bool) (σ : Sit) (a : Act), listed.size = opsA.size → (List.range opsA.size).countP (fun i => !listed.getD i false) ≤ fuel → (∀ i, n ≤ i → listed.getD i false = false) →
      Inv C (opsA.toList.take n) s0 S xs fs base S0 σ0 (fun i => listed.getD i false = true) σ a → wpAny C.P .any opsA Q fuel listed a σ.w := by
  have hlen : (opsA.toList.take n).length = n := by simp; omega
  have hH : ∀ i, i < n → (opsA.toList.take n)[i]? = opsA[i]? := fun i hi => by rw [List.getElem?_take_of_lt hi]; simp
  have htail : ∀ i o, n ≤ i → opsA[i]? = some o → (n < i → i - 1 ∈ preds o) ∧ (∀ p ∈ preds o, p < i) ∧ (i = n → ∀ j, j < n → j ∈ (preds o).flatMap fun i => i :: anc (opsA.toList.take n) i) := fun i o hi ho => by
    have hdrop : (opsA.toList.drop n)[i - n]? = some o := by
      rw [List.getElem?_drop, show n + (i - n) = i by omega]; simpa using ho
    cases hd : opsA.toList.drop n with
    | nil => rw [hd] at hdrop; simp at hdrop
    | cons x r =>
      rw [hd] at hdrop hT
      simp only [tailOk, Bool.and_eq_true] at hT
      obtain ⟨⟨⟨t1, t2⟩, t3⟩, t4⟩ := hT
      rcases Nat.eq_or_lt_of_le hi with heq | hgt
      · subst heq
        rw [Nat.sub_self] at hdrop
        simp at hdrop
        subst hdrop
        exact ⟨fun h => absurd h (Nat.lt_irrefl _), allLt_iff t3, fun _ j hj => allIn_spec t2 j hj⟩
      · obtain ⟨k, rfl⟩ : ∃ k, i = n + 1 + k := ⟨i - n - 1, by omega⟩
        rw [show n + 1 + k - n = k + 1 by omega] at hdrop
        have := tailRest_spec t4 k o (by simpa using hdrop)
        refine ⟨fun _ => by rw [show n + 1 + k - 1 = n + k by omega]; exact this.2.1, fun p hp => ?_, fun h => by omega⟩
        have := this.2.2 p hp
        omega
  have hdone : ∀ (fuel : Nat) (listed : Array Bool) (σ : Sit) (a : Act), listed.size = opsA.size → (List.range opsA.size).countP (fun i => !listed.getD i false) ≤ fuel → (∀ i, n ≤ i → listed.getD i false = false) → (∀ i, i < n → listed.getD i false = true) →
      Inv C (opsA.toList.take n) s0 S xs fs base S0 σ0 (fun i => listed.getD i false = true) σ a → wpAny C.P .any opsA Q fuel listed a σ.w := fun fuel listed σ a hs hc hno hall hI => by
    have hl : ∀ i, listed.getD i false = true ↔ i < n := fun i => by
      rcases Nat.lt_or_ge i n with h | h
      · exact ⟨fun _ => h, fun _ => hall i h⟩
      · exact ⟨fun h' => (by rw [hno i h] at h'; cases h'), fun h' => by omega⟩
    have hrel := hI.done hR (fun i hi => hall i (by rw [hlen] at hi; exact hi))
    rw [hlen] at hrel
    refine tail_any (n := n) (fun i o hi ho => (htail i o (by omega) ho).1 hi) (fun i o hi ho => (htail i o hi ho).2.1) fuel n listed a σ.w (Nat.le_refl _) hs hl hn ?_ (hQ σ a hI.ok hI.adv hrel)
    refine Nat.le_trans ?_ hc
    have : (List.range opsA.size).countP (fun i => !listed.getD i false) = (List.range opsA.size).countP (fun i => decide (n ≤ i)) := by
      refine List.countP_congr fun i _ => ?_
      rcases Nat.lt_or_ge i n with h | h
      · rw [hall i h]; simp; omega
      · rw [hno i h]; simp; omega
    rw [this]
    have key : ∀ m, m - n ≤ (List.range m).countP (fun i => decide (n ≤ i)) := fun m => by
      induction m with
      | zero => simp
      | succ m ih =>
        rw [List.range_succ, List.countP_append]
        simp only [List.countP_cons, List.countP_nil, decide_eq_true_eq]
        split <;> omega
    exact key _
  intro fuel
  induction fuel with
  | zero =>
    intro listed σ a hs hc hno hI
    refine hdone 0 listed σ a hs hc hno (fun i hi => ?_) hI
    have h0 : (List.range opsA.size).countP (fun i => !listed.getD i false) = 0 := by omega
    rw [List.countP_eq_zero] at h0
    have := h0 i (List.mem_range.2 (by omega))
    simpa using this
  | succ fuel ih =>
    intro listed σ a hs hc hno hI
    by_cases hall : ∀ i, i < n → listed.getD i false = true
    · exact hdone (fuel + 1) listed σ a hs hc hno hall hI
    · have hex : ∃ j, j < n ∧ listed.getD j false = false ∧ ∀ k, k < j → listed.getD k false = true := by
        obtain ⟨j, hj⟩ := Classical.not_forall.1 hall
        obtain ⟨hj1, hj2⟩ := Classical.not_imp.1 hj
        have hj2 : listed.getD j false = false := by simpa using hj2
        have : ∀ m, ∀ j, j ≤ m → j < n → listed.getD j false = false → ∃ j, j < n ∧ listed.getD j false = false ∧ ∀ k, k < j → listed.getD k false = true := fun m => by
          induction m with
          | zero => intro j hj h1 h2; exact ⟨j, h1, h2, fun k hk => by omega⟩
          | succ m ihm =>
            intro j hj h1 h2
            by_cases hk : ∀ k, k < j → listed.getD k false = true
            · exact ⟨j, h1, h2, hk⟩
            · obtain ⟨k, hk⟩ := Classical.not_forall.1 hk
              obtain ⟨hk1, hk2⟩ := Classical.not_imp.1 hk
              exact ihm k (by omega) (by omega) (by simpa using hk2)
        exact this j j (Nat.le_refl _) hj1 hj2
      refine ⟨fun hnil => ?_, fun i hi => ?_⟩
      · exfalso
        obtain ⟨j, h1, h2, h3⟩ := hex
        have : j ∈ Region.ready .any opsA listed := by
          rw [mem_ready]
          have hil : j < listed.size := by omega
          refine ⟨by simpa [Array.getD, hil] using h2, opsA[j], by simp [show j < opsA.size by omega], fun e he hbd => ?_⟩
          have hlt := (hR.row (j := j) (y := opsA[j]) (by rw [hH j h1]; simp [show j < opsA.size by omega])).1 e.on (mem_preds.2 ⟨e, he, hbd, rfl⟩)
          exact h3 e.on hlt
        rw [hnil] at this; simp at this
      · obtain ⟨h1, o, ho, hpre⟩ := mem_ready.1 hi
        have hil : i < opsA.size := (Array.getElem?_eq_some_iff.1 ho).1
        have hil' : i < listed.size := by omega
        have h1' : listed.getD i false = false := by simpa [Array.getD, hil'] using h1
        have hin : i < n := by
          rcases Nat.lt_or_ge i n with h | h
          · exact h
          · exfalso
            obtain ⟨t1, t2, t3⟩ := htail i o h ho
            rcases Nat.eq_or_lt_of_le h with heq | hgt
            · subst heq
              obtain ⟨j, g1, g2, _⟩ := hex
              obtain ⟨q, hq, hqj⟩ := List.mem_flatMap.1 (t3 rfl j g1)
              have hql : listed.getD q false = true := by
                obtain ⟨e, he, hb, rfl⟩ := mem_preds.1 hq
                exact hpre e he hb
              rcases List.mem_cons.1 hqj with rfl | hqj
              · rw [g2] at hql; cases hql
              · have := hI.closed q hql j hqj
                rw [g2] at this; cases this
            · obtain ⟨e, he, hb, hon⟩ := mem_preds.1 (t1 hgt)
              have := hpre e he hb
              rw [hon, hno (i - 1) (by omega)] at this
              cases this
        have hset : ∀ k, (listed.setIfInBounds i true).getD k false = true ↔ (k = i ∨ listed.getD k false = true) := fun k => by
          by_cases hk : k = i
          · subst hk; simp [Array.getD, hil']
          · rw [Array.getD_eq_getD_getElem?, Array.getElem?_setIfInBounds_ne (fun e => hk e.symm), ← Array.getD_eq_getD_getElem?]
            simp [hk]
        have hstep := draw_op (opsA := (opsA.toList.take n).toArray) (K := wpAny C.P .any opsA Q fuel (listed.setIfInBounds i true)) (Q := Q) hC hR hG0 hI (j := i) (o := o) ((hH i hin).trans ho)
          (fun k hk => by obtain ⟨e, he, hb, rfl⟩ := mem_preds.1 hk; exact hpre e he hb) (by simp [h1'])
          (fun σ' a' hI' => ih _ σ' a' (by simpa using hs) ?_ ?_ ?_)
        · have hw : Region.wanted o (yielded (opsA.toList.take n).toArray a.tmps) = Region.wanted o (yielded opsA a.tmps) := by
            unfold Region.wanted
            cases hg : o.guard with
            | none => rfl
            | some gp =>
              obtain ⟨gi, p⟩ := gp
              have hgi := (hR.row (j := i) (y := o) (by rw [hH i hin]; exact ho)).2.2.2.2 gi p hg
              simp only
              unfold yielded
              have : ((opsA.toList.take n).toArray[gi]?) = opsA[gi]? := by
                rw [List.getElem?_toArray]; exact hH gi (by omega)
              rw [this]
          rw [hw] at hstep
          unfold wpOp
          rw [ho]
          simp only
          split
          · rename_i hwant; rw [if_pos hwant] at hstep; exact .inl hstep
          · rename_i hwant; rw [if_neg hwant] at hstep; exact hstep
        · have := countP_lt (p := fun i => !listed.getD i false) (q := fun k => !(listed.setIfInBounds i true).getD k false) (j := i) (fun k hk => by
            simp only [Bool.not_eq_true'] at hk ⊢
            cases hb : listed.getD k false with
            | false => rfl
            | true => rw [(hset k).2 (.inr hb)] at hk; cases hk) (by simp [h1']) (by simp only [Bool.not_eq_false']; exact (hset i).2 (.inl rfl)) (List.range opsA.size) (List.mem_range.2 hil)
          omega
        · intro k hk
          cases hb : (listed.setIfInBounds i true).getD k false with
          | false => rfl
          | true =>
            rcases (hset k).1 hb with rfl | h
            · omega
            · rw [hno k hk] at h; cases h
        · have : (fun k => (listed.setIfInBounds i true).getD k false = true) = (fun k => k = i ∨ listed.getD k false = true) := funext fun k => propext (hset k)
          rw [this]
          exact hI'
/-- a region whose order is drawn, with its tail -/
theorem draw_ok6 (hP : ProgOk C) {opsA : Array Oper} {n : Nat} (hn : n ≤ opsA.size) {fps : List FP} {gs : List Bool} {s s' : St} (hd : okDraw (opsA.toList.take n) fps = true) (hT : tailOk (opsA.toList.take n) n (opsA.toList.drop n) = true) (he : drawRun C (opsA.toList.take n) (opsA.toList.take n) s = some (fps, gs, s')) (hgs : ∀ g ∈ gs, g = true) (hcs : s.cs = [])
    {σ : Sit} {a : Act} (ho : Ok base S0 σ) (hr : RelT σ s a) (hG : GlobsOk C.globs σ.w σ.S) {id : Nat} {Q : Exit → Act → World → Prop}
    (hQ : ∀ σ' a', Ok base S0 σ' → Adv σ σ' → RelT σ' s' a' → s'.m0 = s.m0 → wpList C.P opsA Q (opsA.toList.drop n) a' σ'.w) : (Code.region id opsA true).wp C.P Q a σ.w := by
  have hlen : (opsA.toList.take n).length = n := by simp; omega
  obtain ⟨S, xs, fs, h0, h1, h2, h3⟩ := trace_from _ _ _ _ _ he hgs
  have hR : Reg C (opsA.toList.take n) s S xs fs := ⟨⟨fps, hd, h0⟩, ⟨h1, h3⟩, hcs⟩
  rw [hlen] at h2
  obtain ⟨k1, k2⟩ := ok_drew (n := σ.w.drawn + 1) ho
  refine wp_region_any hP.mixed ?_
  have hstart := Inv.start hR k1 (show RelT _ s a from ⟨hr.size, hr.defers, hr.mem, fun t => RepT.keep k2.moves.rep (hr.tm t), fun d g p x hm => ⟨fun h => RepT.keep k2.moves.rep ((hr.cs d g p x hm).1 h), (hr.cs d g p x hm).2⟩⟩)
  have hm0 : s'.m0 = s.m0 := by
    rw [← h2]; exact (hR.parts _ (by rw [hlen]; exact Nat.le_refl _)).2
  refine draw_head hP.sums hn hR hT (σ0 := { σ with w := { σ.w with drawn := σ.w.drawn + 1 } }) (hG.adv k2.adv) (fun σ' a' q1 q2 q3 => hQ σ' a' q1 (k2.adv.trans q2) (by rw [← h2]; exact q3) hm0) opsA.size (Array.replicate opsA.size false) { σ with w := { σ.w with drawn := σ.w.drawn + 1 } } a (by simp) ?_ (fun i _ => by simp [Array.getD]) ?_
  · refine Nat.le_trans (List.countP_le_length) ?_
    simp
  · have : (fun i => (Array.replicate opsA.size false).getD i false = true) = fun _ => False := funext fun i => by
      simp [Array.getD]
    rw [this]
    exact hstart
end Vx
namespace Vx
open Go Go.RowKit
/-- a block as it was, or forgotten, or its cells known less well -/
def RelB (e e' : Blk) : Prop :=
  match e' with
  | .gone => True
  | .raw _ => ∃ cs, e = .raw cs
  | .arr τ xs => e = .arr τ xs
  | .acc τ xs => e = .acc τ xs
  | .froz τ xs => e = .froz τ xs
structure Cut (σ σ' : Sit) : Prop where
  E : σ'.E = σ.E
  w : σ'.w = σ.w
  S : σ'.S = σ.S
  rel : ∀ b, RelB (blkAt σ.mem b) (blkAt σ'.mem b)
variable {σ σ' : Sit}
theorem cast_same {τ' τ : Shape} {xs : List (Den τ')} {ys : List (Den τ)} (h : castL τ' τ xs = some ys) : (⟨τ', xs⟩ : Sigma fun τ => List (Den τ)) = ⟨τ, ys⟩ := by
  obtain ⟨rfl, rfl⟩ := castL_eq h; rfl
theorem readC_ok (hc : Cut σ σ') : ∀ {c : PC} {z : SC} {d : c.D} {y : Value}, readC σ.mem σ'.mem.length c z = some d → RepC σ z y → RepC σ' (buildC c d) y
  | .v k, z, d, y, h, hz => by
    simp only [readC] at h
    split at h
    · split at h
      · rename_i k' n hk; subst hk; cases h; exact hz
      · cases h
    · cases h
  | .bool, z, d, y, h, hz => by
    simp only [readC] at h
    split at h
    · cases h; exact hz
    · cases h
  | .str, z, d, y, h, hz => by
    simp only [readC] at h
    split at h
    · cases h; exact hz
    · cases h
  | .fnv, z, d, y, h, hz => by
    simp only [readC] at h
    split at h
    · cases h
      obtain ⟨rfl, _⟩ := hz
      exact (rfl : [Value.nilFunc] = _)
    · cases h
      obtain ⟨_, _, h1⟩ := hz
      rcases h1 with ⟨p, hp, _⟩ | ⟨rs, h1, rfl⟩
      · simp at hp
      · simp [buildC, RepC, DRep]
    · cases h; exact hz
    · cases h
  | .sl τ, z, d, y, h, hz => by
    have key : ∀ {τ' : Shape} {xs : List (Den τ')}, castL τ' τ xs = some d → DRep σ.w σ.S (.slice τ') xs [y] → DRep σ'.w σ'.S (.slice τ) d [y] := fun hcast hd => by
      have := castL_rep hcast hd
      rw [hc.w, hc.S]; exact this
    simp only [readC] at h
    split at h
    · exact key h hz
    · cases h
      obtain ⟨rfl, _⟩ := hz
      exact nil_rep τ
    · split at h
      · rename_i b' τ' xs e
        obtain ⟨_, _, hz⟩ := hz
        rw [e] at hz
        exact key h hz
      · cases h
    · cases h
  | .fl k, z, d, y, h, hz => by
    simp only [readC] at h
    split at h
    · split at h
      · rename_i k' o hk; subst hk; cases h; exact hz
      · cases h
    · cases h
  | .own b, z, d, y, h, hz => by
    simp only [readC] at h
    split at h
    · rename_i b'
      obtain ⟨hb, _⟩ := cond_some h
      simp only [Bool.and_eq_true] at hb
      have : b' = b := Nat.eq_of_beq_eq_true hb.1
      subst this
      obtain ⟨h1, h2, h3⟩ := hz
      refine ⟨by simpa using hb.2, h2, ?_⟩
      have hr := hc.rel b'
      unfold RelB at hr
      cases e : blkAt σ'.mem b' with
      | gone => trivial
      | raw cs => trivial
      | arr τ xs => rw [e] at hr; rw [hr] at h3; simp only at h3 ⊢; rw [hc.E]; exact h3
      | acc τ xs => rw [e] at hr; rw [hr] at h3; simp only at h3 ⊢; rw [hc.E]; exact h3
      | froz τ xs => rw [e] at hr; rw [hr] at h3; simp only at h3 ⊢; rw [hc.w, hc.S]; exact h3
    · cases h
  | .ptr b off, z, d, y, h, hz => by
    simp only [readC] at h
    split at h
    · rename_i b' off'
      obtain ⟨hb, _⟩ := cond_some h
      simp only [Bool.and_eq_true] at hb
      have : b' = b := Nat.eq_of_beq_eq_true hb.1.1
      subst this
      have : off' = off := Nat.eq_of_beq_eq_true hb.1.2
      subst this
      obtain ⟨h1, h2, h3⟩ := hz
      refine ⟨by simpa using hb.2, h2, ?_⟩
      have hr := hc.rel b'
      unfold RelB at hr
      cases e : blkAt σ'.mem b' with
      | gone => trivial
      | raw cs => rw [e] at hr; obtain ⟨cs', hr⟩ := hr; rw [hr] at h3; simp only at h3 ⊢; rw [hc.E]; exact h3
      | arr τ xs => rw [e] at hr; rw [hr] at h3; simp only at h3 ⊢; rw [hc.E]; exact h3
      | acc τ xs => trivial
      | froz τ xs => trivial
    · cases h
  | .gptr g, z, d, y, h, hz => by
    simp only [readC] at h
    split at h
    · rename_i g'
      have : g' = g := Nat.eq_of_beq_eq_true (cond_some h).1
      subst this
      exact hz
    · cases h
  | .fn f, z, d, y, h, hz => by
    simp only [readC] at h
    split at h
    · rename_i f'
      have : f' = f := Nat.eq_of_beq_eq_true (cond_some h).1
      subst this
      obtain ⟨_, h2, h1⟩ := hz
      rcases h1 with ⟨p, hp, _⟩ | ⟨rs, h1, rfl⟩
      · simp at hp
      · exact ⟨by simp, h2, .inr ⟨rs, h1, rfl⟩⟩
    · cases h
  | .nilp, z, d, y, h, hz => by
    simp only [readC] at h
    split at h
    · cases h; exact hz
    · cases h
  | .undef, z, d, y, h, hz => hz.scalar
theorem readCs_ok (hc : Cut σ σ') : ∀ {l : List PC} {zs : List SC} {d : PCs l} {ys : List Value}, readCs σ.mem σ'.mem.length l zs = some d → All2 (RepC σ) zs ys → All2 (RepC σ') (buildCs l d) ys
  | [], [], _, _, _, .nil => .nil
  | [], _ :: _, _, _, h, _ => by simp [readCs] at h
  | _ :: _, [], _, _, h, _ => by simp [readCs] at h
  | c :: r, z :: zs, d, _, h, .cons h1 h2 => by
    simp only [readCs] at h
    split at h
    · rename_i e1 e2
      cases h
      exact .cons (readC_ok hc e1 h1) (readCs_ok hc e2 h2)
    · cases h
theorem readV_ok (hc : Cut σ σ') {v : PV} {x : TV} {d : v.D} {y : Value} (h : readV σ.mem σ'.mem.length v x = some d) (hx : RepT σ x y) : RepV σ' (buildV v d) y := by
  unfold readV at h
  split at h
  · exact readC_ok hc h hx
  · obtain ⟨ys, e, ha⟩ := hx
    exact ⟨ys, e, readCs_ok hc h ha⟩
  · cases h
theorem readTm_ok (hc : Cut σ σ') {s : St} (hm : σ.mem = s.mem) {ys : Nat → Value} (ht : ∀ t, RepT σ (getT s.tm t) (ys t)) : ∀ {l : List (Nat × PV)} {d : PTm l}, readTm s σ'.mem.length l = some d → ∀ t, RepT σ' (getT (buildTm l d) t) (ys t)
  | [], _, _, t => trivial
  | (n, v) :: r, d, h, t => by
    simp only [readTm] at h
    split at h
    · rename_i e1 e2
      cases h
      simp only [buildTm, getT]
      cases hb : Nat.beq n t with
      | true =>
        have := Nat.eq_of_beq_eq_true hb
        subst this
        rw [← hm] at e1
        exact readV_ok hc e1 (ht n)
      | false => exact readTm_ok hc hm ht e2 t
    · cases h
theorem buildMem_len : ∀ {l : List PB} {d : PMem l}, (buildMem l d).length = l.length
  | [], _ => rfl
  | _ :: r, d => by simp [buildMem, buildMem_len]
theorem readMem_get {mem : Mem} {len : Nat} : ∀ {l : List PB} {zs : List Blk} {d : PMem l}, readMem mem len l zs = some d → ∀ b, b < l.length → ∃ (p : PB) (z : Blk) (x : p.D), zs[b]? = some z ∧ readB mem len p z = some x ∧ (buildMem l d)[b]? = some (buildB p x)
  | [], _, _, _, b, hb => by simp at hb
  | p :: r, [], _, h, b, hb => by simp [readMem] at h
  | p :: r, z :: zs, d, h, b, hb => by
    simp only [readMem] at h
    split at h
    · rename_i x xs e1 e2
      cases h
      cases b with
      | zero => exact ⟨p, z, x, rfl, e1, rfl⟩
      | succ b =>
        obtain ⟨p', z', x', h1, h2, h3⟩ := readMem_get e2 b (by simpa using hb)
        exact ⟨p', z', x', h1, h2, h3⟩
    · cases h
theorem readB_rel {mem : Mem} {len : Nat} {p : PB} {z : Blk} {x : p.D} (h : readB mem len p z = some x) : RelB z (buildB p x) := by
  unfold readB at h
  split at h
  · trivial
  · exact ⟨_, rfl⟩
  · have := cast_same h; simp only [Sigma.mk.injEq] at this; obtain ⟨rfl, h2⟩ := this; cases h2; rfl
  · have := cast_same h; simp only [Sigma.mk.injEq] at this; obtain ⟨rfl, h2⟩ := this; cases h2; rfl
  · have := cast_same h; simp only [Sigma.mk.injEq] at this; obtain ⟨rfl, h2⟩ := this; cases h2; rfl
  · cases h
theorem readPat_ok {base : Base} {S0 : Nat → Prop} {s : St} {a : Act} (ho : Ok base S0 σ) (hr : RelT σ s a) {p : Pat} {x : p.D} (h : readPat p s = some x) :
    ∃ σ' : Sit, σ'.w = σ.w ∧ σ'.S = σ.S ∧ Ok base S0 σ' ∧ RelT σ' (buildPat p x) a := by
  unfold readPat at h
  obtain ⟨hb, h⟩ := cond_some h
  simp only [Bool.and_eq_true] at hb
  split at h
  · rename_i x1 x2 e1 e2
    cases h
    let σ' : Sit := { σ with mem := buildMem p.mem x2 }
    have hlen : σ'.mem.length = p.mem.length := buildMem_len
    have hat : ∀ b, b < p.mem.length → ∃ (q : PB) (x : q.D), readB σ.mem σ'.mem.length q (blkAt σ.mem b) = some x ∧ blkAt σ'.mem b = buildB q x := fun b hb => by
      obtain ⟨q, z, x, h1, h2, h3⟩ := readMem_get e2 b hb
      refine ⟨q, x, ?_, ?_⟩
      · rw [hr.mem, hlen]; unfold blkAt; rw [h1]; exact h2
      · unfold blkAt; rw [h3]; rfl
    have hout : ∀ b, ¬ b < p.mem.length → blkAt σ'.mem b = .gone := fun b hb => blkAt_ge (by rw [hlen]; omega)
    have hc : Cut σ σ' := ⟨rfl, rfl, rfl, fun b => by
      by_cases hb : b < p.mem.length
      · obtain ⟨q, x, h1, h2⟩ := hat b hb
        rw [h2]; exact readB_rel h1
      · rw [hout b hb]; trivial⟩
    have howned : ∀ b r, σ'.owned b r → σ.owned b r := fun b r h => by
      obtain ⟨h1, h2⟩ := h
      refine ⟨?_, h2⟩
      have hrel := hc.rel b
      unfold RelB at hrel
      cases e : blkAt σ'.mem b with
      | gone => rw [e] at h1; exact h1.elim
      | raw cs => rw [e] at hrel; obtain ⟨cs', h⟩ := hrel; rw [h]; trivial
      | arr τ xs => rw [e] at hrel; rw [hrel]; trivial
      | acc τ xs => rw [e] at hrel; rw [hrel]; trivial
      | froz τ xs => rw [e] at h1; exact h1.elim
    refine ⟨σ', rfl, rfl, ⟨ho.below, ho.stab0, ho.stab, fun b => ?_, fun b r h => ho.own b r (howned b r h), fun b b' r h h' => ho.inj b b' r (howned b r h) (howned b' r h')⟩, ?_⟩
    · have hent := ho.ent b
      unfold MemAt at hent ⊢
      have hrel := hc.rel b
      unfold RelB at hrel
      cases e : blkAt σ'.mem b with
      | gone => trivial
      | froz τ xs => trivial
      | arr τ xs => rw [e] at hrel; rw [hrel] at hent; exact hent
      | acc τ xs => rw [e] at hrel; rw [hrel] at hent; exact hent
      | raw cs =>
        have hb : b < p.mem.length := Classical.byContradiction fun hb => by rw [hout b hb] at e; cases e
        obtain ⟨q, x, h1, h2⟩ := hat b hb
        rw [e] at h2
        rw [e] at hrel
        obtain ⟨cs', hcs⟩ := hrel
        rw [hcs] at hent h1
        obtain ⟨r, vs, T, g1, g2, g3⟩ := hent
        cases q with
        | raw l =>
          simp only [readB] at h1
          simp only [buildB, Blk.raw.injEq] at h2
          subst h2
          exact ⟨r, vs, T, g1, g2, readCs_ok hc h1 g3⟩
        | gone => simp [buildB] at h2
        | arr τ => simp [buildB] at h2
        | acc τ => simp [buildB] at h2
        | froz τ => simp [buildB] at h2
    · refine ⟨?_, hr.defers, rfl, fun t => ?_, fun d g q y hm => by simp [buildPat] at hm⟩
      · rw [hr.size]; exact Nat.eq_of_beq_eq_true hb.1
      · rw [← hlen] at e1
        exact readTm_ok hc hr.mem hr.tm e1 t
  · cases h
theorem readPat_m0 {p : Pat} {s : St} {x : p.D} (h : readPat p s = some x) : s.m0 = 0 := by
  unfold readPat at h
  have := (cond_some h).1
  simp only [Bool.and_eq_true] at this
  exact Nat.eq_of_beq_eq_true this.2
theorem accUp_ok {base : Base} {S0 : Nat → Prop} {a : Act} : ∀ (l : List (Nat × Shape)) {σ : Sit} {s : St}, Ok base S0 σ → RelT σ s a → s.cs = [] → ∃ σ' : Sit, σ'.w = σ.w ∧ Ok base S0 σ' ∧ Goes σ σ' ∧ RelT σ' (accUp l s) a ∧ (accUp l s).m0 = s.m0
  | [], σ, s, ho, hr, _ => ⟨σ, rfl, ho, Goes.refl σ, hr, rfl⟩
  | (t, τ) :: r, σ, s, ho, hr, hcs => by
    simp only [accUp]
    split
    · rename_i e
      have hg := name_goes σ (.acc τ [])
      have hr' : RelT (σ.name (.acc τ [])) { s with tm := (t, .val (.one (.own s.mem.length))) :: s.tm, mem := s.mem ++ [.acc τ []] } a := by
        refine ⟨hr.size, hr.defers, by simp [Sit.name, hr.mem], fun t' => ?_, fun d g p x hm => by rw [hcs] at hm; simp at hm⟩
        simp only [getT]
        cases hb : Nat.beq t t' with
        | false => exact hg.repT (hr.tm t')
        | true =>
          have := Nat.eq_of_beq_eq_true hb
          subst this
          have h1 := hr.tm t
          rw [e] at h1
          obtain ⟨h1, _⟩ := h1
          rw [h1]
          refine ⟨by simp [Sit.name, hr.mem], trivial, ?_⟩
          rw [← hr.mem]
          simp only [Sit.name, blkAt_append_at]
          simp [upd]
      obtain ⟨σ', h1, h2, h3, h4, h5⟩ := accUp_ok r (name_ok ho τ) hr' hcs
      exact ⟨σ', h1, h2, hg.trans h3, h4, h5⟩
    · exact accUp_ok r ho hr hcs
/-- behind a cut where nobody else's names are about, all goes on -/
theorem adv_cut {σ0 σ σ' : Sit} (hA : Adv σ0 σ) (h0 : σ0.mem.length = 0) (hw : σ'.w = σ.w) (hS : σ'.S = σ.S) : Adv σ0 σ' := by
  have hnil : σ0.mem = [] := List.eq_nil_of_length_eq_zero h0
  refine ⟨fun r hr => by rw [hS]; exact hA.stab r hr, fun r hr => by rw [hw]; exact hA.heap r hr, fun c y hc => ?_, by omega, fun b hb => by omega⟩
  have stab := hA.stab
  have heap := hA.heap
  rw [← hw] at heap
  rw [← hS] at stab
  have hna : ∀ b, c ≠ .own b := fun b e => by subst e; have := hc.1; omega
  rw [dropAcc_other hna]
  cases c with
  | undef => exact hc
  | v x => exact hc
  | fl k o => exact hc
  | sl τ xs => exact DRep.mono stab heap hc
  | own b => exact absurd rfl (hna b)
  | ptr b off => have := hc.1; omega
  | eptr b i off => have := hc.1; omega
  | iptr τ x off =>
    obtain ⟨r, o, vs, T, fz, ds, h1, h2, h3, h4, h5⟩ := hc
    exact ⟨r, o, vs, T, fz, ds, h1, stab r h2, (heap r h2).trans h3, h4.mono stab heap, h5⟩
  | gptr g => exact hc
  | fnv o => exact DRep.mono stab heap hc
  | fn f caps =>
    obtain ⟨h1, h2, h3⟩ := hc
    cases caps with
    | cons p r => have := h1 p (by simp); omega
    | nil =>
      refine ⟨by simp, h2, ?_⟩
      rcases h3 with ⟨p, hp, _⟩ | ⟨rs, g1, g2⟩
      · simp at hp
      · exact .inr ⟨rs, by simpa using g1, g2⟩
end Vx
namespace Vx
open Go Go.RowKit
/-- what is known of the loops -/
def LoopOk (C : Cfg) (d : Nat) (fid : FuncId) (body : Code) (sp : LoopSpec) : Prop :=
  ∀ (R : Type) (ke : Nat → St → Option R) (kr : St → Option R) (r : R) (x : sp.pat.D), sp.run x ke kr = some r → ∃ n, iter (lBody C d fid body sp ke kr) n x = some r
def LoopsOk (C : Cfg) : Prop :=
  ∀ fid k sp, C.loop fid k = some sp → ∀ fn whole, C.P.funcs[fid]? = some fn → fn.body = some whole → ∀ body ∈ loopsOf whole, keyOf body = k → ∀ d, LoopOk C (d + 2) fid body sp
variable {C : Cfg} {base : Base} {S0 : Nat → Prop} {R : Type} {r : R}
/-- the rounds of a loop -/
theorem rounds_ok {d : Nat} {fid : FuncId} {body : Code} {sp : LoopSpec} {σ0 : Sit} (h0 : σ0.mem.length = 0) {kn : St → Option R} {ke : Nat → St → Option R} {kr : St → Option R}
    (hbody : ∀ (σ : Sit) (s : St) (a : Act) (kn' : St → Option R) (ke' : Nat → St → Option R) (kr' : St → Option R), Ok base S0 σ → Adv σ0 σ → RelT σ s a → s.m0 = σ0.mem.length →
      exec C (inlRun C d) true fid body s kn' ke' kr' = some r → body.wp C.P (Post base S0 σ0 r kn' ke' kr') a σ.w) :
    ∀ (n : Nat) (x : sp.pat.D) (σ : Sit) (a : Act), Ok base S0 σ → Adv σ0 σ → RelT σ (buildPat sp.pat x) a → iter (lBody C d fid body sp ke kr) n x = some r → Code.rounds C.P body (Post base S0 σ0 r kn ke kr) n a σ.w
  | 0, _, _, _, _, _, _, h => by simp [iter] at h
  | n + 1, x, σ, a, ho, hA, hr, h => by
    simp only [iter] at h
    unfold lBody at h
    have := hbody σ _ a _ _ _ ho hA hr (by rw [h0]; rfl) h
    rw [rounds_succ]
    refine wp_mono this fun e a' w' hp => ?_
    obtain ⟨σ', s', rfl, k2, k3, k4, k5, k6⟩ := hp
    cases e with
    | normal =>
      simp only at k6
      split at k6
      · rename_i y ey
        obtain ⟨σ1, g1, g2, g3, g4, g5⟩ := accUp_ok sp.accs k2 k4.clear rfl
        obtain ⟨σ2, q1, q2, q3, q4⟩ := readPat_ok g2 g4 ey
        have hA2 : Adv σ0 σ2 := adv_cut (k3.trans g3.adv) h0 q1 q2
        have := rounds_ok (kn := kn) h0 hbody n y σ2 a' q3 hA2 q4 k6
        rw [q1, g1] at this
        exact this
      · cases k6
    | exit id =>
      simp only at k6
      unfold outE at k6
      split at k6
      · split at k6
        · rename_i y ey
          obtain ⟨σ2, q1, q2, q3, q4⟩ := readPat_ok k2 k4 ey
          exact ⟨σ2, _, q1, q3, adv_cut k3 h0 q1 q2, q4, by rw [h0]; rfl, k6⟩
        · cases k6
      · cases k6
    | ret =>
      simp only at k6
      unfold outR at k6
      split at k6
      · split at k6
        · rename_i y ey
          obtain ⟨σ2, q1, q2, q3, q4⟩ := readPat_ok k2 k4 ey
          exact ⟨σ2, _, q1, q3, adv_cut k3 h0 q1 q2, q4, by rw [h0]; rfl, k6⟩
        · cases k6
      · cases k6
    | _ => exact k6.elim
/-- a piece of code does what exec says -/
theorem exec_ok (hP : ProgOk C) (hL : LoopsOk C) {inl : FuncId → List SV → Mem → (List SV → Mem → Option R) → Option R} (hI : InlOk C inl) {lp : Bool} (hlp : lp = true → ∃ d, inl = inlRun C (d + 2))
    {σ0 : Sit} (hG0 : GlobsOk C.globs σ0.w σ0.S) {fid : FuncId} {fn : Func} {whole : Code} (hf : C.P.funcs[fid]? = some fn) (hb : fn.body = some whole) :
    ∀ (c : Code), (∀ b ∈ loopsOf c, b ∈ loopsOf whole) → ∀ (σ : Sit) (s : St) (a : Act) (kn : St → Option R) (ke : Nat → St → Option R) (kr : St → Option R), Ok base S0 σ → Adv σ0 σ → RelT σ s a → s.m0 = σ0.mem.length →
      exec C inl lp fid c s kn ke kr = some r → c.wp C.P (Post base S0 σ0 r kn ke kr) a σ.w
  | .skip, _, σ, s, a, kn, ke, kr, ho, hA, hr, hm, h => wp_skip ⟨σ, s, rfl, ho, hA, hr, hm, h⟩
  | .exit id, _, σ, s, a, kn, ke, kr, ho, hA, hr, hm, h => wp_exit ⟨σ, s, rfl, ho, hA, hr, hm, h⟩
  | .ret, _, σ, s, a, kn, ke, kr, ho, hA, hr, hm, h => wp_ret ⟨σ, s, rfl, ho, hA, hr, hm, h⟩
  | .region id ops false, _, σ, s, a, kn, ke, kr, ho, hA, hr, hm, h => by
    simp only [exec] at h
    refine wp_mono (wp_region_list (runOps_ok hP hI ops (ke := ke) (kr := kr) hG0 ops.toList ho hA hr.clear hm h)) fun e a' w' hp => ?_
    obtain ⟨σ', s', k1, k2, k3, k4, k5, k6⟩ := hp
    cases e with
    | normal => exact ⟨σ', { s' with cs := [] }, k1, k2, k3, k4.clear, k5, k6⟩
    | exit id => exact ⟨σ', s', k1, k2, k3, k4, k5, k6⟩
    | ret => exact ⟨σ', s', k1, k2, k3, k4, k5, k6⟩
    | _ => exact k6.elim
  | .region id ops true, _, σ, s, a, kn, ke, kr, ho, hA, hr, hm, h => by
    simp only [exec] at h
    split at h
    · rename_i fps gs s' he
      obtain ⟨hd, h⟩ := cond_some h
      simp only [Bool.and_eq_true] at hd
      obtain ⟨hgs, h⟩ := chk_some h
      refine wp_mono (draw_ok6 hP (by have := headLen_le ops.toList; simpa using this) hd.1 hd.2 he hgs rfl ho hr.clear (hG0.adv hA) fun σ' a' k1 k2 k3 k4 =>
        runOps_ok hP hI ops (kn := fun s'' => kn { s'' with cs := [] }) (ke := ke) (kr := kr) hG0 _ k1 (hA.trans k2) k3.clear (k4.trans hm) h) fun e a' w' hp => ?_
      obtain ⟨σ', s', k1, k2, k3, k4, k5, k6⟩ := hp
      cases e with
      | normal => exact ⟨σ', { s' with cs := [] }, k1, k2, k3, k4.clear, k5, k6⟩
      | exit id => exact ⟨σ', s', k1, k2, k3, k4, k5, k6⟩
      | ret => exact ⟨σ', s', k1, k2, k3, k4, k5, k6⟩
      | _ => exact k6.elim
    · cases h
  | .seq c1 c2, hl, σ, s, a, kn, ke, kr, ho, hA, hr, hm, h => by
    simp only [exec] at h
    refine wp_seq (wp_mono (exec_ok hP hL hI hlp hG0 hf hb c1 (fun b hb' => hl b (by simp [loopsOf, hb'])) σ s a _ ke kr ho hA hr hm h) fun e a' w' hp => ?_)
    cases e with
    | normal =>
      obtain ⟨σ', s', rfl, k2, k3, k4, k5, k6⟩ := hp
      exact exec_ok hP hL hI hlp hG0 hf hb c2 (fun b hb' => hl b (by simp [loopsOf, hb'])) σ' s' a' kn ke kr k2 k3 k4 k5 k6
    | exit id => exact hp
    | ret => exact hp
    | goto l => exact hp
    | panic ch => exact hp
    | outgrown => exact hp
  | .cond c c1 c2, hl, σ, s, a, kn, ke, kr, ho, hA, hr, hm, h => by
    simp only [exec] at h
    split at h
    · rename_i t et
      obtain ⟨hv, _⟩ := ev1_ok hr (fun _ _ h => by simp at h) et
      refine wp_cond (t := t) hv ?_
      cases t with
      | true => exact exec_ok hP hL hI hlp hG0 hf hb c1 (fun b hb' => hl b (by simp [loopsOf, hb'])) σ s a kn ke kr ho hA hr hm h
      | false => exact exec_ok hP hL hI hlp hG0 hf hb c2 (fun b hb' => hl b (by simp [loopsOf, hb'])) σ s a kn ke kr ho hA hr hm h
    · cases h
  | .block id c, hl, σ, s, a, kn, ke, kr, ho, hA, hr, hm, h => by
    simp only [exec] at h
    refine wp_block (wp_mono (exec_ok hP hL hI hlp hG0 hf hb c (fun b hb' => hl b (by simp [loopsOf, hb'])) σ s a kn _ kr ho hA hr hm h) fun e a' w' hp => ?_)
    cases e with
    | normal => exact hp
    | exit id' =>
      obtain ⟨σ', s', k1, k2, k3, k4, k5, k6⟩ := hp
      simp only at k6
      simp only [Exit.inBlock]
      by_cases hid : id' = id
      · subst hid
        rw [if_pos rfl]
        rw [Nat.beq_refl] at k6
        exact ⟨σ', s', k1, k2, k3, k4, k5, k6⟩
      · rw [if_neg hid]
        have : Nat.beq id' id = false := by
          cases hq : Nat.beq id' id with
          | false => rfl
          | true => exact absurd (Nat.eq_of_beq_eq_true hq) hid
        rw [this] at k6
        exact ⟨σ', s', k1, k2, k3, k4, k5, k6⟩
    | ret => exact hp
    | goto l => exact hp
    | panic ch => exact hp
    | outgrown => exact hp
  | .loop c, hl, σ, s, a, kn, ke, kr, ho, hA, hr, hm, h => by
    simp only [exec] at h
    split at h
    · cases h
    · rename_i sp esp
      obtain ⟨hlpt, h1⟩ := cond_some h
      clear h
      split at h1
      · rename_i x ex
        obtain ⟨d, rfl⟩ := hlp hlpt
        subst hlpt
        obtain ⟨n, hn⟩ := hL fid _ sp esp fn whole hf hb c (hl c (by simp [loopsOf])) rfl d R ke kr r x h1
        obtain ⟨σ1, g1, g2, g3, g4, g5⟩ := accUp_ok sp.accs ho hr.clear rfl
        have h0 : σ0.mem.length = 0 := by rw [← hm]; exact g5.symm.trans (readPat_m0 ex)
        obtain ⟨σ2, q1, q2, q3, q4⟩ := readPat_ok g2 g4 ex
        have hA2 : Adv σ0 σ2 := adv_cut (hA.trans g3.adv) h0 q1 q2
        have := rounds_ok (kn := kn) h0 (fun σ s a kn' ke' kr' => exec_ok hP hL hI hlp hG0 hf hb c (fun b hb' => hl b (by simp [loopsOf, hb'])) σ s a kn' ke' kr') n x σ2 a q3 hA2 q4 hn
        rw [q1, g1] at this
        exact wp_loop_rounds n this
      · cases h1
  | .goto _, _, _, _, _, _, _, _, _, _, _, _, h => by simp [exec] at h
  | .label _, _, _, _, _, _, _, _, _, _, _, _, h => by simp [exec] at h
  | .rangeFunc _ _ _ _, _, _, _, _, _, _, _, _, _, _, _, h => by simp [exec] at h
end Vx
namespace Vx
open Go Go.RowKit
variable {C : Cfg} {base : Base} {S0 : Nat → Prop} {R : Type} {r : R} {σ : Sit} {s : St} {a : Act}
theorem loadVar_of {P : Program} {T : TypeId} {p : Addr} {w : World} {v : Value} (h : (Instr.loadAt T (.pointer (some p))).run P w = .ok v w) : (loadVar T p).run P w = .ok v w := by
  unfold Instr.loadAt at h
  simpa [Instr.sureAddr] using h
def resVar (tmps : Array Value) (v : ResultVar) : Sem Value :=
  match v with
  | .tmp t => pure (tmps.getD t undef)
  | .cell c T => do loadVar T (← asAddr (tmps.getD c undef))
theorem readRes_ok {P : Program} (ho : Ok base S0 σ) (hr : RelT σ s a) : ∀ {l : List ResultVar} {rs : List SV}, readRes P s l = some rs →
    ∃ zs, (l.mapM (resVar a.tmps)).run P σ.w = .ok zs σ.w ∧ All2 (RepV σ) rs zs
  | [], rs, h => by
    simp only [readRes] at h; cases h
    exact ⟨[], by simp, .nil⟩
  | .tmp t :: l, rs, h => by
    simp only [readRes] at h
    split at h
    · rename_i x rs' e1 e2
      cases h
      obtain ⟨zs, h1, h2⟩ := readRes_ok ho hr e2
      have ht := hr.tm t
      rw [e1] at ht
      exact ⟨_ :: zs, by simp [resVar, h1], .cons ht h2⟩
    · cases h
  | .cell c T :: l, rs, h => by
    simp only [readRes] at h
    split at h
    · rename_i z rs' e1 e2
      obtain ⟨zs, h1, h2⟩ := readRes_ok ho hr e2
      have ht := hr.tm c
      rw [e1] at ht
      have ptr : ∀ {cs off}, cellsAt σ.mem z = some (cs, off) → ∃ p, a.tmps.getD c undef = .pointer (some p) := fun hc => by
        obtain ⟨r, o, vs, T', fz, ds, hy, _⟩ := cellsAt_ok ho ht hc
        exact ⟨_, hy⟩
      rw [← hr.mem] at h
      split at h
      · rename_i cs off hc hT
        split at h
        · rename_i x hx
          cases h
          obtain ⟨p, hp⟩ := ptr hc
          obtain ⟨v, hv, hR⟩ := load_agg (cellsAt_ok ho ht hc) hT hx
          rw [hp] at hv
          exact ⟨v :: zs, by simp [resVar, hp, asAddr, loadVar_of hv, h1], .cons hR h2⟩
        · cases h
      · rename_i cs off hc hT
        split at h
        · rename_i x hx
          cases h
          obtain ⟨p, hp⟩ := ptr hc
          obtain ⟨v, hv, hR⟩ := load_one (cellsAt_ok ho ht hc) hT (by assumption)
          rw [hp] at hv
          exact ⟨v :: zs, by simp [resVar, hp, asAddr, loadVar_of hv, h1], .cons hR h2⟩
        · cases h
      · cases h
    · cases h
theorem results_ok {P : Program} {fn : Func} (ho : Ok base S0 σ) (hr : RelT σ s a) {rs : List SV} (h : readRes P s fn.results.toList = some rs) :
    ∃ zs, (results fn a.tmps).run P σ.w = .ok (resOf zs) σ.w ∧ All2 (RepV σ) rs zs := by
  obtain ⟨zs, h1, h2⟩ := readRes_ok ho hr h
  refine ⟨zs, ?_, h2⟩
  have he : results fn a.tmps = (do
      let vs ← fn.results.mapM (resVar a.tmps)
      pure (if h : vs.size = 1 then vs[0] else .tuple vs)) := rfl
  rw [he, Array.mapM_eq_mapM_toList]
  simp only [bind_map_left, Sem.run_bind, h1, Result.andThen_ok, Sem.run_pure]
  congr 1
  unfold resOf
  split
  · rename_i hs
    simp at hs
    match zs, hs with
    | [y], _ => rfl
  · rename_i hs
    split
    · simp at hs
    · rfl
theorem argT_get : ∀ {l : List SV} {n t : Nat}, getT (argT n l) t = (match l[t - n]? with | some x => if n ≤ t then .val x else .un | none => .un)
  | [], n, t => by simp [argT, getT]
  | x :: l, n, t => by
    simp only [argT, getT]
    cases hb : Nat.beq n t with
    | true => have := Nat.eq_of_beq_eq_true hb; subst this; simp
    | false =>
      have hne : n ≠ t := fun e => by subst e; simp [Nat.beq_refl] at hb
      simp only [cond_false]
      rw [argT_get]
      rcases Nat.lt_or_ge n t with hlt | hge
      · have : t - n = (t - (n + 1)) + 1 := by omega
        rw [this, List.getElem?_cons_succ]
        have h1 : n + 1 ≤ t := hlt
        have h2 : n ≤ t := by omega
        simp only [h1, h2, if_true]
      · have h0 : t - n = 0 := by omega
        have h1 : ¬ n + 1 ≤ t := by omega
        have h2 : ¬ n ≤ t := by omega
        rw [h0, List.getElem?_cons_zero]
        simp only [h1, h2, if_false]
        split <;> rfl
/-- the frame at a call's beginning -/
theorem start_rel {args : List SV} {ys : List Value} {n m0 : Nat} (ha : All2 (RepV σ) args ys) (hn : args.length ≤ n) :
    RelT σ { n := n, m0 := m0, tm := argT 0 args, mem := σ.mem, cs := [] } { tmps := ys.toArray ++ Array.replicate (n - ys.toArray.size) undef, defers := [] } := by
  have hlen := ha.length
  refine ⟨by simp; omega, rfl, rfl, fun t => ?_, fun d g p x hm => by simp at hm⟩
  rw [argT_get]
  simp only [Nat.sub_zero]
  cases hx : args[t]? with
  | none => trivial
  | some x =>
    obtain ⟨y, hy, hxy⟩ := ha.get hx
    simp only [Nat.zero_le, if_true]
    have : (ys.toArray ++ Array.replicate (n - ys.toArray.size) undef).getD t undef = y := by
      have hlt : t < ys.length := (List.getElem?_eq_some_iff.1 hy).1
      rw [Array.getD_eq_getD_getElem?, Array.getElem?_append_left (by simpa using hlt)]
      simp [hy]
    rw [this]
    exact hxy
/-- a function's body -/
theorem bodyRun_ok (hP : ProgOk C) (hL : LoopsOk C) {inl : FuncId → List SV → Mem → (List SV → Mem → Option R) → Option R} (hI : InlOk C inl) {lp : Bool} (hlp : lp = true → ∃ d, inl = inlRun C (d + 2))
    {f : FuncId} {fn : Func} (hf : C.P.funcs[f]? = some fn) {m0 : Nat} {args : List SV} {mem : Mem} {k : List SV → Mem → Option R} (h : bodyRun C inl lp f fn m0 args mem k = some r) {ys : List Value}
    {σ0 : Sit} (h0 : m0 = σ0.mem.length) (hA : Adv σ0 σ) (ho : Ok base S0 σ) (hm : σ.mem = mem) (hG : GlobsOk C.globs σ0.w σ0.S) (ha : All2 (RepV σ) args ys) :
    (∃ fn, C.P.funcs[f]? = some fn ∧ fn.body.isNone = false ∧ (fn.name == "runtime.NumGoroutine") = false) ∧
    Calls C.P f ys.toArray σ.w fun e w' => ∃ (σ' : Sit) (rs : List SV) (zs : List Value), e = .returned (resOf zs) ∧ σ'.w = w' ∧ Ok base S0 σ' ∧ Adv σ0 σ' ∧ All2 (RepV σ') rs zs ∧ k rs σ'.mem = some r := by
  unfold bodyRun at h
  split at h
  · rename_i c hc
    obtain ⟨hb, h⟩ := cond_some h
    simp only [Bool.and_eq_true, Bool.not_eq_true'] at hb
    subst hm
    refine ⟨⟨fn, hf, by simp [hc], hb.2⟩, ?_⟩
    refine calls_of_wp hf hc (wp_mono (exec_ok hP hL hI hlp hG hf hc c (fun _ h => h) σ _ _ _ _ _ ho hA (start_rel ha (by simpa using hb.1)) h0 h) fun e a' w' hp => ?_)
    obtain ⟨σ', s', rfl, k2, k3, k4, k5, k6⟩ := hp
    have hfin : fin C.P fn k s' = some r → a'.defers = [] ∧ ∃ v, (results fn a'.tmps).run C.P σ'.w = .ok v σ'.w ∧
        ∃ (σ'' : Sit) (rs : List SV) (zs : List Value), Ending.returned v = .returned (resOf zs) ∧ σ''.w = σ'.w ∧ Ok base S0 σ'' ∧ Adv σ0 σ'' ∧ All2 (RepV σ'') rs zs ∧ k rs σ''.mem = some r := fun h => by
      unfold fin at h
      split at h
      · rename_i rs ers
        obtain ⟨zs, h1, h2⟩ := results_ok k2 k4 ers
        exact ⟨k4.defers, _, h1, σ', rs, zs, rfl, rfl, k2, k3, h2, by rw [k4.mem]; exact h⟩
      · cases h
    cases e with
    | normal => exact hfin k6
    | ret => exact hfin k6
    | exit id => cases k6
    | _ => exact k6.elim
  · cases h
theorem inlRun_ok (hP : ProgOk C) (hL : LoopsOk C) : ∀ d, InlOk C (inlRun (R := R) C d)
  | 0, f, args, mem, k, r, h => by simp [inlRun] at h
  | d + 1, f, args, mem, k, r, h => by
    intro base S0 σ ys ho hm hG ha
    simp only [inlRun] at h
    split at h
    · rename_i fn hf
      obtain ⟨_, h⟩ := cond_some h
      subst hm
      refine bodyRun_ok hP hL (inlRun_ok hP hL d) (fun hl => ?_) hf h rfl (Adv.refl σ) ho rfl hG ha
      have : 2 ≤ d := by simpa using hl
      exact ⟨d - 2, by rw [show d - 2 + 2 = d by omega]⟩
    · cases h
/-- the situation before a call on plain data -/
theorem start_ok {w : World} {St : Nat → Prop} (M : Nat → Prop) (h : ∀ q, St q → q < w.heap.size) : Ok ⟨w, M⟩ St { E := ⟨fun _ => none, fun _ => 0⟩, mem := [], w := w, S := St } :=
  ⟨⟨rfl, rfl, rfl, Nat.le_refl _, fun _ _ _ => rfl⟩, fun _ h => h, fun r hr => ⟨h r hr, .inl hr⟩, fun b => by unfold MemAt; simp [blkAt], fun b r hb => by obtain ⟨h1, _⟩ := hb; simp [blkAt, ownedB] at h1, fun b b' r hb => by obtain ⟨h1, _⟩ := hb; simp [blkAt, ownedB] at h1⟩
theorem run_calls (hP : ProgOk C) (hL : LoopsOk C) {d : Nat} {f : FuncId} {fn : Func} (hf : C.P.funcs[f]? = some fn) {I O : Sig} {x : DenS I} {y : DenS O} (h : run C d f fn I O x = some y)
    {w : World} {St : Nat → Prop} {ys : List Value} {rs : List Nat} (hSt : ∀ q, St q → q < w.heap.size) (hG : GlobsOk C.globs w St) (hx : SRep w St I x ys rs) (hn : rs.Nodup) (hr : ∀ r ∈ rs, ¬ St r ∧ r < w.heap.size) :
    Calls C.P f ys.toArray w fun e w' => ∃ zs rs', e = .returned (resOf zs) ∧ Low ⟨w, fun r => r ∈ rs⟩ w' ∧ (∀ r ∈ rs', Base.new ⟨w, fun r => r ∈ rs⟩ r ∧ r < w'.heap.size) ∧ rs'.Nodup ∧
      SRep w' (fun q => (St q ∨ (Base.new ⟨w, fun r => r ∈ rs⟩ q ∧ q < w'.heap.size)) ∧ q ∉ rs') O y zs rs' := by
  unfold run at h
  split at h
  · rename_i args m0 ea
    have hok := start_ok (w := w) (fun r => r ∈ rs) hSt
    obtain ⟨σ1, c1, c2, c3, c4, c5, c6⟩ := giveS_ok (σ := { E := ⟨fun _ => none, fun _ => 0⟩, mem := [], w := w, S := St }) hok hx hn (fun r h => ⟨.inr h, (hr r h).2, (hr r h).1, fun b hb => by obtain ⟨h1, _⟩ := hb; simp [blkAt, ownedB] at h1⟩) ea
    obtain ⟨_, hc⟩ := bodyRun_ok hP hL (inlRun_ok hP hL d) (lp := Nat.ble 2 d) (fun hl => by
      have : 2 ≤ d := by simpa using hl
      exact ⟨d - 2, by rw [show d - 2 + 2 = d by omega]⟩) hf h (σ0 := { E := ⟨fun _ => none, fun _ => 0⟩, mem := [], w := w, S := St }) rfl c5.adv c4 c1 hG c6
    rw [c2] at hc
    refine hc.mono fun e w' he => ?_
    obtain ⟨σ', rs0, zs, rfl, rfl, k1, k2, k3, k4⟩ := he
    cases hz : frzS σ'.mem O rs0 with
    | mk rs1 m1 =>
      rw [hz] at k4
      simp only at k4
      obtain ⟨σ2, a1, a2, a3, a4, a5, a6⟩ := frzS_ok k1 hz
      split at k4
      · rename_i y' m2 ey
        cases k4
        rw [← a1] at ey
        obtain ⟨σ3, rs', b1, b2, b3, b4, b5, b6, b7, b8, b9, b10⟩ := takeS_ok a4 (a6 _ k3) ey
        have hown : ∀ r ∈ rs', Base.new ⟨w, fun r => r ∈ rs⟩ r ∧ r < σ'.w.heap.size ∧ ¬ σ2.S r := fun r hr => by
          obtain ⟨⟨b, hb⟩, _⟩ := b9 r hr
          have := a4.own b r hb
          rw [a2] at this
          exact this
        refine ⟨zs, rs', rfl, k1.below, fun r hr => ⟨(hown r hr).1, (hown r hr).2.1⟩, b8, ?_⟩
        rw [a2] at b7
        refine b7.mono (fun q hq => ?_) (fun _ _ => rfl) (fun _ _ => rfl)
        have hq' := a4.stab q hq
        rw [a2] at hq'
        refine ⟨?_, fun h => (hown q h).2.2 hq⟩
        rcases hq'.2 with h | h
        · exact .inl h
        · exact .inr ⟨h, hq'.1⟩
      · cases k4
  · cases h
/-- what is computed is what is called -/
theorem sound_of (hP : ProgOk C) (hL : LoopsOk C) (d : Nat) (f : FuncId) (fn : Func) (hf : C.P.funcs[f]? = some fn) (hb : fn.body.isNone = false) (hn : (fn.name == "runtime.NumGoroutine") = false) (S : Sum)
    (h : ∀ x, S.pre x = true → run C d f fn S.ins S.outs x = some (S.F x)) : Sound C.P C.globs f S :=
  ⟨fun x hx0 _ _ _ _ hSt hG hx hnd hr => .inl ⟨⟨fn, hf, hb, hn⟩, run_calls hP hL hf (h x hx0) hSt hG hx hnd hr⟩⟩
end Vx
namespace Vx
open Go Go.RowKit
/-- the data at a loop's exits -/
@[reducible] def OutT : List (Nat × Pat) → Option Pat → Type
  | [], none => Empty
  | [], some p => p.D
  | (_, p) :: r, o => p.D ⊕ OutT r o
/-- what comes behind an inner loop -/
@[reducible] def obind {A R : Type} (o : Option A) (f : A → Option R) : Option R := match o with
  | some y => f y
  | none => none
@[reducible] def obind2 {A A' R : Type} (o : A ⊕ A') (f : A → Option R) (g : A' → Option R) : Option R := match o with
  | .inl y => f y
  | .inr y => g y
def outK {R : Type} : (l : List (Nat × Pat)) → (o : Option Pat) → (Nat → St → Option R) → (St → Option R) → OutT l o → Option R
  | [], none, _, _ => fun _ => none
  | [], some p, _, kr => fun y => kr (buildPat p y)
  | (i, p) :: r, o, ke, kr => fun z => obind2 z (fun y => ke i (buildPat p y)) (fun z => outK r o ke kr z)
def injE {R : Type} : (l : List (Nat × Pat)) → (o : Option Pat) → (OutT l o → Option R) → Nat → St → Option R
  | [], _, _, _, _ => none
  | (i, p) :: r, o, e, id, s => bif Nat.beq i id then (match readPat p s with | some y => e (.inl y) | none => none) else injE r o (fun z => e (.inr z)) id s
def injR {R : Type} : (l : List (Nat × Pat)) → (o : Option Pat) → (OutT l o → Option R) → St → Option R
  | [], none, _, _ => none
  | [], some p, e, s => match readPat p s with | some y => e y | none => none
  | _ :: r, o, e, s => injR r o (fun z => e (.inr z)) s
/-- a loop's body, as a step from head to head or to an exit -/
noncomputable def lStep (C : Cfg) (d : Nat) (fid : FuncId) (body : Code) (pat : Pat) (accs : List (Nat × Shape)) (exits : List (Nat × Pat)) (ret : Option Pat) {R : Type} (L : pat.D → Option R) (e : OutT exits ret → Option R) (x : pat.D) : Option R :=
  exec C (inlRun C d) true fid body (buildPat pat x) (fun s' => match readPat pat (accUp accs { s' with cs := [] }) with
    | some y => L y
    | none => none) (injE exits ret e) (injR exits ret e)
theorem outE_eq {R : Type} (ke : Nat → St → Option R) (kr : St → Option R) : ∀ (l : List (Nat × Pat)) (o : Option Pat) (id : Nat) (s : St), outE l ke id s = injE l o (outK l o ke kr) id s
  | [], _, _, _ => rfl
  | (i, p) :: r, o, id, s => by
    unfold outE
    simp only [findPat, injE]
    cases hb : Nat.beq i id with
    | true =>
      have := Nat.eq_of_beq_eq_true hb
      subst this
      rfl
    | false =>
      simp only [cond_false]
      have ih := outE_eq ke kr r o id s
      unfold outE at ih
      rw [ih]
      rfl
theorem outR_eq {R : Type} (ke : Nat → St → Option R) (kr : St → Option R) : ∀ (l : List (Nat × Pat)) (o : Option Pat) (s : St), outR o kr s = injR l o (outK l o ke kr) s
  | [], none, _ => rfl
  | [], some p, s => rfl
  | (i, p) :: r, o, s => by
    simp only [injR]
    rw [outR_eq ke kr r o s]
    rfl
/-- any number of rounds that ends -/
noncomputable def lfix {D Y : Type} (φ : (D → Option Y) → D → Option Y) (x : D) : Option Y :=
  open Classical in if h : ∃ y, ∃ n, iter φ n x = some y then some (Classical.choose h) else none
theorem lfix_iter {D Y : Type} {φ : (D → Option Y) → D → Option Y} {x : D} {y : Y} (h : lfix φ x = some y) : ∃ n, iter φ n x = some y := by
  unfold lfix at h
  split at h
  · rename_i hex
    cases h
    exact Classical.choose_spec hex
  · cases h
/-- a step that uses what it is given, and looks at nothing of it -/
def Par {D Y : Type} (Φ : {R : Type} → (D → Option R) → (Y → Option R) → D → Option R) : Prop :=
  ∀ (A B : Type) (rel : Option A → Option B → Prop) (L : D → Option A) (L' : D → Option B) (e : Y → Option A) (e' : Y → Option B), rel none none → (∀ x, rel (L x) (L' x)) → (∀ y, rel (e y) (e' y)) → ∀ x, rel (Φ L e x) (Φ L' e' x)
theorem rel_cond {A B : Type} {rel : Option A → Option B → Prop} {c : Bool} {a a' : Option A} {b b' : Option B} (h : rel a b) (h' : rel a' b') : rel (bif c then a else a') (bif c then b else b') := by
  cases c
  · exact h'
  · exact h
theorem rel_obind {A B T : Type} {rel : Option A → Option B → Prop} (h0 : rel none none) {o : Option T} {f : T → Option A} {g : T → Option B} (h : ∀ y, rel (f y) (g y)) : rel (obind o f) (obind o g) := by
  cases o with
  | none => exact h0
  | some y => exact h y
theorem rel_obind2 {A B T T' : Type} {rel : Option A → Option B → Prop} {o : T ⊕ T'} {f : T → Option A} {g : T → Option B} {f' : T' → Option A} {g' : T' → Option B} (h : ∀ y, rel (f y) (g y)) (h' : ∀ y, rel (f' y) (g' y)) :
    rel (obind2 o f f') (obind2 o g g') := by
  cases o with
  | inl y => exact h y
  | inr y => exact h' y
section
variable {D Y : Type} {Φ : {R : Type} → (D → Option R) → (Y → Option R) → D → Option R}
theorem iter_mono (hp : Par Φ) : ∀ (n m : Nat) (x : D) (y : Y), iter (fun L => Φ L some) n x = some y → n ≤ m → iter (fun L => Φ L some) m x = some y
  | 0, _, _, _, h, _ => by simp [iter] at h
  | n + 1, 0, _, _, _, h => by omega
  | n + 1, m + 1, x, y, h, hm => by
    simp only [iter] at h ⊢
    exact hp Y Y (fun a b => ∀ y, a = some y → b = some y) _ _ _ _ (fun _ h => h) (fun x y h => iter_mono hp n m x y h (by omega)) (fun _ _ h => h) x y h
theorem lfix_of (hp : Par Φ) {n : Nat} {x : D} {y : Y} (h : iter (fun L => Φ L some) n x = some y) : lfix (fun L => Φ L some) x = some y := by
  have hex : ∃ y, ∃ n, iter (fun L => Φ L some) n x = some y := ⟨y, n, h⟩
  unfold lfix
  rw [dif_pos hex]
  obtain ⟨m, hm⟩ := Classical.choose_spec hex
  have h1 := iter_mono hp n (max n m) x y h (by omega)
  have h2 := iter_mono hp m (max n m) x _ hm (by omega)
  rw [h1] at h2
  rw [← h2]
/-- a loop with a measure -/
theorem lfix_ind (hp : Par Φ) (μ : D → Nat) (I : D → Prop) (post : D → Y) (h : ∀ (L : D → Option Y) x, I x → (∀ x', I x' → μ x' < μ x → L x' = some (post x')) → Φ L some x = some (post x)) : ∀ x, I x → lfix (fun L => Φ L some) x = some (post x) := by
  have key : ∀ m x, I x → μ x < m → iter (fun L => Φ L some) m x = some (post x) := by
    intro m
    induction m with
    | zero => intro x _ h; omega
    | succ m ih =>
      intro x hx hm
      simp only [iter]
      exact h _ x hx fun x' hx' hlt => ih x' hx' (by omega)
  intro x hx
  exact lfix_of hp (key (μ x + 1) x hx (by omega))
end
@[reducible] noncomputable def LoopSpec.of (pat : Pat) (accs : List (Nat × Shape)) (exits : List (Nat × Pat)) (ret : Option Pat) (runF : pat.D → Option (OutT exits ret)) : LoopSpec :=
  { pat, accs, exits, ret, run := fun x ke kr => match runF x with
      | some z => outK exits ret ke kr z
      | none => none }
theorem lBody_eq {C : Cfg} {d : Nat} {fid : FuncId} {body : Code} (sp : LoopSpec) {R : Type} (ke : Nat → St → Option R) (kr : St → Option R) (L : sp.pat.D → Option R) (x : sp.pat.D) :
    lBody C d fid body sp ke kr L x = lStep C d fid body sp.pat sp.accs sp.exits sp.ret L (outK sp.exits sp.ret ke kr) x := by
  have h1 : outE sp.exits ke = injE sp.exits sp.ret (outK sp.exits sp.ret ke kr) := funext fun id => funext fun s => outE_eq ke kr sp.exits sp.ret id s
  have h2 : outR sp.ret kr = injR sp.exits sp.ret (outK sp.exits sp.ret ke kr) := funext fun s => outR_eq ke kr sp.exits sp.ret s
  unfold lBody lStep
  rw [← h1, ← h2]
  congr 1
  funext s'
  cases readPat sp.pat (accUp sp.accs { s' with cs := [] }) <;> rfl
theorem loopOk_of {C : Cfg} {d : Nat} {fid : FuncId} {body : Code} {pat : Pat} {accs : List (Nat × Shape)} {exits : List (Nat × Pat)} {ret : Option Pat} (Φ : {R : Type} → (pat.D → Option R) → (OutT exits ret → Option R) → pat.D → Option R) (hp : Par Φ)
    (hs : ∀ (R : Type) (L : pat.D → Option R) (e : OutT exits ret → Option R) x, lStep C d fid body pat accs exits ret L e x = Φ L e x) :
    LoopOk C d fid body (LoopSpec.of pat accs exits ret (lfix fun L => Φ L some)) := by
  intro R ke kr r x h
  have hbody : ∀ (L : pat.D → Option R) (x : pat.D), lBody C d fid body (LoopSpec.of pat accs exits ret (lfix fun L => Φ L some)) ke kr L x = Φ L (outK exits ret ke kr) x := fun L x =>
    (lBody_eq (LoopSpec.of pat accs exits ret (lfix fun L => Φ L some)) ke kr L x).trans (hs R L (outK exits ret ke kr) x)
  simp only [LoopSpec.of] at h
  split at h
  · rename_i z hz
    obtain ⟨n, hn⟩ := lfix_iter hz
    refine ⟨n, ?_⟩
    have key : ∀ n (x : pat.D) z, iter (fun L => Φ L some) n x = some z → iter (lBody C d fid body (LoopSpec.of pat accs exits ret (lfix fun L => Φ L some)) ke kr) n x = outK exits ret ke kr z := by
      intro n
      induction n with
      | zero => intro x z h; simp [iter] at h
      | succ n ih =>
        intro x z h
        simp only [iter] at h
        exact (hbody _ x).trans <| hp _ R (fun a b => ∀ z, a = some z → b = outK exits ret ke kr z) _ _ _ _ (fun _ h => by cases h) (fun x z h => ih x z h) (fun y z h => by cases h; rfl) x z h
    exact (key n x z hn).trans h
  · cases h
/-- a function by what it computes -/
noncomputable def sumOf (I O : Sig) (t : DenS I → Option (DenS O)) (dflt : DenS O) : Sum := { ins := I, outs := O, pre := fun x => (t x).isSome, F := fun x => (t x).getD dflt }
theorem sumOf_sound {C : Cfg} (hP : ProgOk C) (hL : LoopsOk C) (d : Nat) (f : FuncId) (fn : Func) (hf : C.P.funcs[f]? = some fn) (hb : fn.body.isNone = false) (hn : (fn.name == "runtime.NumGoroutine") = false) (I O : Sig) (t : DenS I → Option (DenS O)) (dflt : DenS O)
    (h : ∀ x, run C d f fn I O x = t x) : Sound C.P C.globs f (sumOf I O t dflt) :=
  sound_of hP hL d f fn hf hb hn _ fun x hx => by
    refine (h x).trans ?_
    simp only [sumOf] at hx ⊢
    cases ht : t x with
    | none => rw [ht] at hx; cases hx
    | some y => rfl
def DenS.dflt : (S : Sig) → DenS S
  | [] => ()
  | (_, τ) :: r => (τ.dflt, DenS.dflt r)
/-- a loop's body by its name -/
def bodyOf (fn : Func) (k : Nat) : Code := match fn.body with
  | some c => ((loopsOf c).find? fun b => Nat.beq (keyOf b) k).getD .skip
  | none => .skip
def nodupN : List Nat → Bool
  | [] => true
  | n :: r => !(memB n r) && nodupN r
theorem find_key : ∀ {l : List Code}, nodupN (l.map keyOf) = true → ∀ {b : Code} {k : Nat}, b ∈ l → keyOf b = k → l.find? (fun b => Nat.beq (keyOf b) k) = some b
  | [], _, b, k, h, _ => by simp at h
  | c :: l, hn, b, k, hb, hk => by
    simp only [List.map_cons, nodupN, Bool.and_eq_true, Bool.not_eq_true'] at hn
    rw [List.find?_cons]
    rcases List.mem_cons.1 hb with rfl | hb
    · subst hk; simp [Nat.beq_refl]
    · have : Nat.beq (keyOf c) k = false := by
        cases hq : Nat.beq (keyOf c) k with
        | false => rfl
        | true =>
          have e := Nat.eq_of_beq_eq_true hq
          have : memB (keyOf c) (l.map keyOf) = true := memB_iff.2 (by rw [e, ← hk]; exact List.mem_map_of_mem hb)
          rw [this] at hn; cases hn.1
      rw [this]
      exact find_key hn.2 hb hk
theorem bodyOf_eq {fn : Func} {whole : Code} (hw : fn.body = some whole) (hn : nodupN ((loopsOf whole).map keyOf) = true) {b : Code} {k : Nat} (hb : b ∈ loopsOf whole) (hk : keyOf b = k) : b = bodyOf fn k := by
  unfold bodyOf
  rw [hw]
  simp only [find_key hn hb hk, Option.getD_some]
/-- the summaries of a configuration, one by one -/
def AllSound (P : Program) (G : List (Nat × Sigma fun τ => List (Den τ))) : List (FuncId × Sum) → Prop
  | [] => True
  | (f, S) :: r => Sound P G f S ∧ AllSound P G r
theorem sumsOk_of {P : Program} {G : List (Nat × Sigma fun τ => List (Den τ))} : ∀ {l : List (FuncId × Sum)}, AllSound P G l → ∀ f mem args S, findSum l f mem args = some S → Sound P G f S
  | [], _, f, mem, args, S, h => by simp [findSum] at h
  | (g, T) :: r, ha, f, mem, args, S, h => by
    simp only [findSum] at h
    cases hb : Nat.beq g f && fitA mem T.ins args with
    | true =>
      rw [hb] at h
      simp only [cond_true, Option.some.injEq] at h
      subst h
      simp only [Bool.and_eq_true] at hb
      have := Nat.eq_of_beq_eq_true hb.1
      subst this
      exact ha.1
    | false => rw [hb] at h; exact sumsOk_of ha.2 f mem args S h
def AllLoops (C : Cfg) (fid : FuncId) (fn : Func) : List (FuncId × Nat × LoopSpec) → Prop
  | [] => True
  | (f, k, sp) :: r => f = fid ∧ (∀ d, LoopOk C (d + 2) fid (bodyOf fn k) sp) ∧ AllLoops C fid fn r
theorem findLoop_of {C : Cfg} {fid : FuncId} {fn : Func} : ∀ {l : List (FuncId × Nat × LoopSpec)}, AllLoops C fid fn l → ∀ {f k sp}, findLoop l f k = some sp → f = fid ∧ ∀ d, LoopOk C (d + 2) fid (bodyOf fn k) sp
  | [], _, f, k, sp, h => by simp [findLoop] at h
  | (g, j, T) :: r, ha, f, k, sp, h => by
    simp only [findLoop] at h
    cases hb : (Nat.beq g f && Nat.beq j k) with
    | true =>
      rw [hb] at h
      simp only [cond_true, Option.some.injEq] at h
      subst h
      simp only [Bool.and_eq_true] at hb
      have e1 := Nat.eq_of_beq_eq_true hb.1
      have e2 := Nat.eq_of_beq_eq_true hb.2
      subst e1 e2
      exact ⟨ha.1, ha.2.1⟩
    | false => rw [hb] at h; exact findLoop_of ha.2.2 h
/-- the loops of a configuration, all of one function -/
theorem loopsOk_of {C : Cfg} {fid : FuncId} {fn : Func} (hf : C.P.funcs[fid]? = some fn) (hn : ∀ whole, fn.body = some whole → nodupN ((loopsOf whole).map keyOf) = true) (ha : AllLoops C fid fn C.loops) : LoopsOk C := by
  intro f k sp h fn' whole hf' hw body hb hk d
  obtain ⟨rfl, hl⟩ := findLoop_of ha h
  rw [hf] at hf'
  cases hf'
  rw [bodyOf_eq hw (hn whole hw) hb hk]
  exact hl d
/-- all that a function without a fault in its text needs -/
theorem fn_sound (C : Cfg) (d : Nat) (f : FuncId) (fn : Func) (hm : C.P.follows .mixedOrders = true) (hf : C.P.funcs[f]? = some fn) (hb : (match fn.body with | some c => nodupN ((loopsOf c).map keyOf) | none => false) = true) (hn : (fn.name == "runtime.NumGoroutine") = false)
    (hs : AllSound C.P C.globs C.sums) (hl : AllLoops C f fn C.loops) (I O : Sig) (t : DenS I → Option (DenS O)) (dflt : DenS O) (h : ∀ x, run C d f fn I O x = t x) : Sound C.P C.globs f (sumOf I O t dflt) := by
  have hb' : ∃ c, fn.body = some c ∧ nodupN ((loopsOf c).map keyOf) = true := by
    cases e : fn.body with
    | none => rw [e] at hb; cases hb
    | some c => rw [e] at hb; exact ⟨c, rfl, hb⟩
  obtain ⟨c, e, hc⟩ := hb'
  exact sumOf_sound ⟨fun g mem args S => sumsOk_of hs g mem args S, hm⟩ (loopsOk_of hf (fun w hw => by rw [e] at hw; cases hw; exact hc) hl) d f fn hf (by rw [e]; rfl) hn I O t dflt h
/-- beside more tables -/
theorem Sound.more {P : Program} {G G' : List (Nat × Sigma fun τ => List (Den τ))} {f : FuncId} {S : Sum} (hs : Sound P G f S) (h : ∀ g x, findGlob G g = some x → findGlob G' g = some x) : Sound P G' f S :=
  ⟨fun x hp w St ys rs a hG b c d => hs.calls x hp w St ys rs a (fun g τ xs e => hG g τ xs (h g _ e)) b c d⟩
end Vx
namespace Vx
open Go
abbrev sig3 : Sig := [(false, .int .u64), (false, .int .u64), (false, .int .u64)]
abbrev sig2 : Sig := [(false, .int .u64), (false, .int .u64)]
/-- a sum with a carry -/
noncomputable def addSum : Sum := { ins := sig3, outs := sig2, pre := fun x => decide (0 ≤ x.2.2.1) && decide (x.2.2.1 ≤ 1), F := fun x => ((x.1 + x.2.1 + x.2.2.1) % 18446744073709551616, (x.1 + x.2.1 + x.2.2.1) / 18446744073709551616, ()) }
def sub64Entry : Array Value → Sem Value := fun args => do
  let (x, y, b) ← Extern.MathBitsCarry.three "Sub64" args
  pure (Extern.MathBitsCarry.pair ((x + Extern.MathBitsCarry.m64 - y - b) % Extern.MathBitsCarry.m64) (if x < y + b then 1 else 0))
theorem run_sub64 {P : Program} (x y c : Int) (hx : 0 ≤ x) (hy : 0 ≤ y) (hyl : y ≤ 18446744073709551615) (hc0 : 0 ≤ c) (hc : c ≤ 1) (w : World) :
    (sub64Entry #[.int .u64 x, .int .u64 y, .int .u64 c]).run P w =
      .ok (.tuple #[.int .u64 ((x - y - c) % 18446744073709551616), .int .u64 (if x < y + c then 1 else 0)]) w := by
  have key : ∀ k : Nat, k ≤ 1 → (sub64Entry #[.int .u64 x, .int .u64 y, .int .u64 (k : Int)]).run P w =
      .ok (Extern.MathBitsCarry.pair ((x.toNat + Extern.MathBitsCarry.m64 - y.toNat - k) % Extern.MathBitsCarry.m64) (if x.toNat < y.toNat + k then 1 else 0)) w := by
    intro k hk
    have : k = 0 ∨ k = 1 := by omega
    rcases this with rfl | rfl <;> rfl
  obtain ⟨k, rfl⟩ := Int.eq_ofNat_of_zero_le hc0
  rw [key k (by omega)]
  obtain ⟨X, rfl⟩ := Int.eq_ofNat_of_zero_le hx
  obtain ⟨Y, rfl⟩ := Int.eq_ofNat_of_zero_le hy
  simp only [Extern.MathBitsCarry.pair, Extern.MathBitsCarry.m64, Int.toNat_natCast]
  have e1 : (((X + 18446744073709551616 - Y - k) % 18446744073709551616 : Nat) : Int) = ((X : Int) - Y - k) % 18446744073709551616 := by omega
  have e2 : (((if X < Y + k then 1 else 0 : Nat)) : Int) = if (X : Int) < Y + k then 1 else 0 := by
    by_cases h : X < Y + k
    · rw [if_pos h, if_pos (by omega)]; rfl
    · rw [if_neg h, if_neg (by omega)]; rfl
  show Result.ok (Value.tuple #[.int .u64 (((X + 18446744073709551616 - Y - k) % 18446744073709551616 : Nat) : Int), .int .u64 (((if X < Y + k then 1 else 0 : Nat)) : Int)]) w = _
  rw [e1, e2]
/-- a difference with a borrow -/
noncomputable def subSum : Sum := { ins := sig3, outs := sig2, pre := fun x => decide (0 ≤ x.2.2.1) && decide (x.2.2.1 ≤ 1), F := fun x => ((x.1 - x.2.1 - x.2.2.1) % 18446744073709551616, (if x.1 < x.2.1 + x.2.2.1 then 1 else 0), ()) }
theorem ext_sound {P : Program} {G : List (Nat × Sigma fun τ => List (Den τ))} {f : FuncId} {fn : Func} {e : Array Value → Sem Value} (hf : P.funcs[f]? = some fn) (hname : (fn.name == "runtime.NumGoroutine") = false)
    (hb : fn.body.isNone = true) (hn : Extern.findNext fn = none) (he : Extern.find fn = some e) {pre : DenS sig3 → Bool} {F : DenS sig3 → DenS sig2}
    (h : ∀ x y c : Int, pre (x, y, c, ()) = true → 0 ≤ x → x ≤ 18446744073709551615 → 0 ≤ y → y ≤ 18446744073709551615 → ∀ w, (e #[.int .u64 x, .int .u64 y, .int .u64 c]).run P w = .ok (.tuple #[.int .u64 (F (x, y, c, ())).1, .int .u64 (F (x, y, c, ())).2.1]) w ∧
      (0 ≤ (F (x, y, c, ())).1 ∧ (F (x, y, c, ())).1 ≤ 18446744073709551615) ∧ 0 ≤ (F (x, y, c, ())).2.1 ∧ (F (x, y, c, ())).2.1 ≤ 18446744073709551615) : Sound P G f { ins := sig3, outs := sig2, pre, F } := by
  refine ⟨fun z hz w St ys rs hSt _ hr hnd hrs => .inr ?_⟩
  obtain ⟨y1, l1, r1, q1, rfl, rfl, ⟨rfl, h1⟩, y2, l2, r2, q2, rfl, rfl, ⟨rfl, h2⟩, y3, l3, r3, q3, rfl, rfl, ⟨rfl, h3⟩, rfl, rfl⟩ := hr
  obtain ⟨x, y, c, ⟨⟩⟩ := z
  obtain ⟨e1, b1⟩ := h1
  obtain ⟨e2, b2⟩ := h2
  obtain ⟨e3, b3⟩ := h3
  cases e1; cases e2; cases e3
  obtain ⟨g1, g2, g3⟩ := h x y c hz b1.1 b1.2 b2.1 b2.2 w
  refine ⟨_, by rw [run_callFunc_extern hf hname hb hn he]; show ((e #[_, _, _]).run P w).andThen _ = _; rw [g1]; rfl, [.int .u64 (F (x, y, c, ())).1, .int .u64 (F (x, y, c, ())).2.1], [], rfl, ⟨rfl, rfl, rfl, Nat.le_refl _, fun _ _ _ => rfl⟩, fun r hr => by simp at hr, List.nodup_nil, ?_⟩
  exact ⟨_, _, [], [], rfl, rfl, ⟨rfl, rfl, g2⟩, _, _, [], [], rfl, rfl, ⟨rfl, rfl, g3⟩, rfl, rfl⟩
theorem add_sound {P : Program} {G : List (Nat × Sigma fun τ => List (Den τ))} {f : FuncId} {fn : Func} (hf : P.funcs[f]? = some fn) (hname : (fn.name == "runtime.NumGoroutine") = false)
    (hb : fn.body.isNone = true) (hn : Extern.findNext fn = none) (he : Extern.find fn = some add64Entry) : Sound P G f addSum :=
  ext_sound hf hname hb hn he fun x y c hp hx hx' hy hy' w => by
    have hp : (decide (0 ≤ c) && decide (c ≤ 1)) = true := hp
    simp only [Bool.and_eq_true, decide_eq_true_eq] at hp
    refine ⟨run_add64 x y c hx hy hp.1 hp.2 w, ?_, ?_⟩
    · show 0 ≤ (x + y + c) % 18446744073709551616 ∧ (x + y + c) % 18446744073709551616 ≤ 18446744073709551615
      omega
    · show 0 ≤ (x + y + c) / 18446744073709551616 ∧ (x + y + c) / 18446744073709551616 ≤ 18446744073709551615
      omega
theorem sub_sound {P : Program} {G : List (Nat × Sigma fun τ => List (Den τ))} {f : FuncId} {fn : Func} (hf : P.funcs[f]? = some fn) (hname : (fn.name == "runtime.NumGoroutine") = false)
    (hb : fn.body.isNone = true) (hn : Extern.findNext fn = none) (he : Extern.find fn = some sub64Entry) : Sound P G f subSum :=
  ext_sound hf hname hb hn he fun x y c hp hx hx' hy hy' w => by
    have hp : (decide (0 ≤ c) && decide (c ≤ 1)) = true := hp
    simp only [Bool.and_eq_true, decide_eq_true_eq] at hp
    refine ⟨run_sub64 x y c hx hy hy' hp.1 hp.2 w, ?_, ?_⟩
    · show 0 ≤ (x - y - c) % 18446744073709551616 ∧ (x - y - c) % 18446744073709551616 ≤ 18446744073709551615
      omega
    · show 0 ≤ (if x < y + c then (1 : Int) else 0) ∧ (if x < y + c then (1 : Int) else 0) ≤ 18446744073709551615
      split <;> omega
def FloatKind.ik : FloatKind → IntKind
  | .f32 => .u32
  | .f64 => .u64
theorem ik_range (k : FloatKind) (b : Nat) (h : b < 2 ^ fbits k) : (FloatKind.ik k).min ≤ (b : Int) ∧ (b : Int) ≤ (FloatKind.ik k).max := by
  cases k
  · have h : b < 4294967296 := h
    show (0 : Int) ≤ (b : Int) ∧ (b : Int) ≤ 4294967295
    omega
  · have h : b < 18446744073709551616 := h
    show (0 : Int) ≤ (b : Int) ∧ (b : Int) ≤ 18446744073709551615
    omega
theorem ik_bits (k : FloatKind) (n : Int) (h1 : (FloatKind.ik k).min ≤ n) (h2 : n ≤ (FloatKind.ik k).max) : 0 ≤ n ∧ n.toNat < 2 ^ fbits k := by
  cases k
  · have h1 : (0 : Int) ≤ n := h1
    have h2 : n ≤ 4294967295 := h2
    refine ⟨h1, ?_⟩
    show n.toNat < 4294967296
    omega
  · have h1 : (0 : Int) ≤ n := h1
    have h2 : n ≤ 18446744073709551615 := h2
    refine ⟨h1, ?_⟩
    show n.toNat < 18446744073709551616
    omega
/-- a float of some bits -/
noncomputable def fromSum (k : FloatKind) : Sum := { ins := [(false, .int (FloatKind.ik k))], outs := [(false, .flt k)], pre := fun _ => true, F := fun x => (some x.1.toNat, ()) }
/-- a float's bits: not of a NaN of which nothing is known -/
noncomputable def bitsSum (k : FloatKind) : Sum := { ins := [(false, .flt k)], outs := [(false, .int (FloatKind.ik k))], pre := fun x => x.1.isSome, F := fun x => (((x.1.getD 0 : Nat) : Int), ()) }
theorem from_sound {P : Program} {G : List (Nat × Sigma fun τ => List (Den τ))} {f : FuncId} {fn : Func} {e : Array Value → Sem Value} (k : FloatKind) (hf : P.funcs[f]? = some fn) (hname : (fn.name == "runtime.NumGoroutine") = false)
    (hb : fn.body.isNone = true) (hn : Extern.findNext fn = none) (he : Extern.find fn = some e) (hrun : ∀ n, e #[.int (FloatKind.ik k) n] = pure (.float k n.toNat)) : Sound P G f (fromSum k) := by
  refine ⟨fun z hz w St ys rs hSt _ hr hnd hrs => .inr ?_⟩
  obtain ⟨y1, l1, r1, q1, rfl, rfl, ⟨rfl, h1⟩, rfl, rfl⟩ := hr
  obtain ⟨x, ⟨⟩⟩ := z
  obtain ⟨e1, b1⟩ := h1
  cases e1
  obtain ⟨_, g2⟩ := ik_bits k x b1.1 b1.2
  refine ⟨_, by rw [run_callFunc_extern hf hname hb hn he]; show ((e #[_]).run P w).andThen _ = _; rw [hrun]; rfl, [.float k x.toNat], [], rfl, ⟨rfl, rfl, rfl, Nat.le_refl _, fun _ _ _ => rfl⟩, fun r hr => by simp at hr, List.nodup_nil, ?_⟩
  exact ⟨_, _, [], [], rfl, rfl, ⟨rfl, ⟨_, rfl, _, rfl, g2, rfl⟩⟩, rfl, rfl⟩
theorem bits_sound {P : Program} {G : List (Nat × Sigma fun τ => List (Den τ))} {f : FuncId} {fn : Func} {e : Array Value → Sem Value} (k : FloatKind) (hf : P.funcs[f]? = some fn) (hname : (fn.name == "runtime.NumGoroutine") = false)
    (hb : fn.body.isNone = true) (hn : Extern.findNext fn = none) (he : Extern.find fn = some e) (hrun : ∀ b, e #[.float k b] = pure (.int (FloatKind.ik k) b)) : Sound P G f (bitsSum k) := by
  refine ⟨fun z hz w St ys rs hSt _ hr hnd hrs => .inr ?_⟩
  obtain ⟨y1, l1, r1, q1, rfl, rfl, ⟨rfl, h1⟩, rfl, rfl⟩ := hr
  obtain ⟨x, ⟨⟩⟩ := z
  obtain ⟨y, e1, b, rfl, b1, b2⟩ := h1
  cases e1
  cases x with
  | none => cases hz
  | some x =>
    simp only at b2
    subst b2
    refine ⟨_, by rw [run_callFunc_extern hf hname hb hn he]; show ((e #[_]).run P w).andThen _ = _; rw [hrun]; rfl, [.int (FloatKind.ik k) (b : Int)], [], rfl, ⟨rfl, rfl, rfl, Nat.le_refl _, fun _ _ _ => rfl⟩, fun r hr => by simp at hr, List.nodup_nil, ?_⟩
    exact ⟨_, _, [], [], rfl, rfl, ⟨rfl, ⟨rfl, ik_range k b b1⟩⟩, rfl, rfl⟩
end Vx
namespace Vx
open Go Go.Proofs
abbrev rowsSh : Shape := .pair (.int .i64) (.pair (.int .i64) (.pair (.int .i64) (.pair (.int .i64) .unit)))
def k_rows : List (Den rowsSh) := [(16,11,-14,15,()), (16,8,-126,127,()), (32,24,-126,127,()), (64,53,-1022,1023,())]
def G0 : List (Nat × Sigma fun τ => List (Den τ)) := [(1, ⟨rowsSh, k_rows⟩)]
theorem mixedOk : Tryd.prog.follows .mixedOrders = true := by kernel_rfl
/-- vernier/format.Params -/
abbrev I22 : Sig := [(false, .int .i64)]
abbrev O22 : Sig := [(true, .pair (.int .i64) (.pair (.int .i64) (.pair (.int .i64) (.pair (.int .i64) (.unit))))), (false, .int .i64)]
noncomputable def t22 (a0 : Den (.int .i64)) : Option (DenS O22) :=
  bif ((decide (a0 < (0 : Int))) || (decide (a0 ≥ (4 : Int)))) then
  (some (((0 : Int), ((0 : Int), ((0 : Int), ((0 : Int), ())))), ((2 : Int), ())))
  else bif ((decide ((0 : Int) ≤ a0)) && (decide (a0 < ((4 : Nat) : Int)))) then
  (some ((Vx.k_rows.getD (Int.toNat a0) ((0 : Int), ((0 : Int), ((0 : Int), ((0 : Int), ()))))), ((0 : Int), ())))
  else none
theorem r22 (a0 : Den (.int .i64)) :
    run { P := Go.Proofs.Tryd.prog, sums := [], loops := [], globs := G0 } 9 22 Go.Proofs.Tryd.f22 I22 O22 (a0, ()) = t22 a0 := by kernel_rfl
noncomputable def T22 (x : DenS I22) : Option (DenS O22) := t22 x.1
noncomputable def C22 : Cfg := { P := Go.Proofs.Tryd.prog, sums := [], loops := [], globs := G0 }
noncomputable def S22 : Sum := sumOf I22 O22 T22 (DenS.dflt O22)
theorem S22_sound : Sound Go.Proofs.Tryd.prog G0 22 S22 :=
  fn_sound C22 9 22 Go.Proofs.Tryd.f22 mixedOk (by kernel_rfl) (by kernel_rfl) (by kernel_rfl) trivial trivial I22 O22 T22 _ fun x => r22 x.1
/-- vernier/format.Check -/
abbrev I48 : Sig := [(false, .int .i64), (false, .int .u64)]
abbrev O48 : Sig := [(false, .int .i64)]
noncomputable def t48 (p22 : DenS I22 → Bool) (f22 : DenS I22 → DenS O22) (a0 : Den (.int .i64)) (a1 : Den (.int .u64)) : Option (DenS O48) :=
  bif (p22 (a0, ())) then
  (bif ((f22 (a0, ())).2.1 != (0 : Int)) then
  (some (f22 (a0, ())).2)
  else bif ((decide ((0 : Int) ≤ (f22 (a0, ())).1.1)) || (!(decide ((f22 (a0, ())).1.1 < (64 : Int))))) then
  (bif ((decide ((f22 (a0, ())).1.1 < (64 : Int))) && ((Vx.shrI Go.IntKind.u64 a1 (f22 (a0, ())).1.1) != (0 : Int))) then
  (some ((4 : Int), ()))
  else some ((0 : Int), ()))
  else none)
  else none
theorem r48 (p22 : DenS I22 → Bool) (f22 : DenS I22 → DenS O22) (a0 : Den (.int .i64)) (a1 : Den (.int .u64)) :
    run { P := Go.Proofs.Tryd.prog, sums := [(22, ⟨I22, O22, p22, f22⟩)], loops := [], globs := G0 } 9 48 Go.Proofs.Tryd.f48 I48 O48 (a0, a1, ()) = t48 p22 f22 a0 a1 := by kernel_rfl
noncomputable def T48 (x : DenS I48) : Option (DenS O48) := t48 S22.pre S22.F x.1 x.2.1
noncomputable def C48 : Cfg := { P := Go.Proofs.Tryd.prog, sums := [(22, S22)], loops := [], globs := G0 }
noncomputable def S48 : Sum := sumOf I48 O48 T48 (DenS.dflt O48)
theorem S48_sound : Sound Go.Proofs.Tryd.prog G0 48 S48 :=
  fn_sound C48 9 48 Go.Proofs.Tryd.f48 mixedOk (by kernel_rfl) (by kernel_rfl) (by kernel_rfl) ⟨S22_sound, trivial⟩ trivial I48 O48 T48 _ fun x => r48 S22.pre S22.F x.1 x.2.1
/-- vernier/format.ones -/
abbrev I54 : Sig := [(false, .int .i64)]
abbrev O54 : Sig := [(false, .int .u64)]
noncomputable def t54 (a0 : Den (.int .i64)) : Option (DenS O54) :=
  bif (decide ((0 : Int) ≤ a0)) then
  (some ((Go.IntKind.wrap Go.IntKind.u64 ((Vx.shlI Go.IntKind.u64 (1 : Int) a0) - (1 : Int))), ()))
  else none
theorem r54 (a0 : Den (.int .i64)) :
    run { P := Go.Proofs.Tryd.prog, sums := [], loops := [], globs := G0 } 9 54 Go.Proofs.Tryd.f54 I54 O54 (a0, ()) = t54 a0 := by kernel_rfl
noncomputable def T54 (x : DenS I54) : Option (DenS O54) := t54 x.1
noncomputable def C54 : Cfg := { P := Go.Proofs.Tryd.prog, sums := [], loops := [], globs := G0 }
noncomputable def S54 : Sum := sumOf I54 O54 T54 (DenS.dflt O54)
theorem S54_sound : Sound Go.Proofs.Tryd.prog G0 54 S54 :=
  fn_sound C54 9 54 Go.Proofs.Tryd.f54 mixedOk (by kernel_rfl) (by kernel_rfl) (by kernel_rfl) trivial trivial I54 O54 T54 _ fun x => r54 x.1
/-- vernier/format.split -/
abbrev I63 : Sig := [(true, .pair (.int .i64) (.pair (.int .i64) (.pair (.int .i64) (.pair (.int .i64) (.unit))))), (false, .int .u64)]
abbrev O63 : Sig := [(false, .bool), (false, .int .u64), (false, .int .u64)]
noncomputable def t63 (p54 : DenS I54 → Bool) (f54 : DenS I54 → DenS O54) (a0 : Den (.pair (.int .i64) (.pair (.int .i64) (.pair (.int .i64) (.pair (.int .i64) (.unit)))))) (a1 : Den (.int .u64)) : Option (DenS O63) :=
  bif (decide ((0 : Int) ≤ (Go.IntKind.wrap Go.IntKind.i64 (a0.1 - (1 : Int))))) then
  (bif (decide ((0 : Int) ≤ (Go.IntKind.wrap Go.IntKind.i64 (a0.2.1 - (1 : Int))))) then
  (bif (p54 ((Go.IntKind.wrap Go.IntKind.i64 (a0.1 - a0.2.1)), ())) then
  (bif (p54 ((Go.IntKind.wrap Go.IntKind.i64 (a0.2.1 - (1 : Int))), ())) then
  (some (((Vx.shrI Go.IntKind.u64 a1 (Go.IntKind.wrap Go.IntKind.i64 (a0.1 - (1 : Int)))) != (0 : Int)), ((Vx.andI Go.IntKind.u64 (Vx.shrI Go.IntKind.u64 a1 (Go.IntKind.wrap Go.IntKind.i64 (a0.2.1 - (1 : Int)))) (f54 ((Go.IntKind.wrap Go.IntKind.i64 (a0.1 - a0.2.1)), ())).1), ((Vx.andI Go.IntKind.u64 a1 (f54 ((Go.IntKind.wrap Go.IntKind.i64 (a0.2.1 - (1 : Int))), ())).1), ()))))
  else none)
  else none)
  else none)
  else none
theorem r63 (p54 : DenS I54 → Bool) (f54 : DenS I54 → DenS O54) (a0 : Den (.pair (.int .i64) (.pair (.int .i64) (.pair (.int .i64) (.pair (.int .i64) (.unit)))))) (a1 : Den (.int .u64)) :
    run { P := Go.Proofs.Tryd.prog, sums := [(54, ⟨I54, O54, p54, f54⟩)], loops := [], globs := G0 } 9 63 Go.Proofs.Tryd.f63 I63 O63 (a0, a1, ()) = t63 p54 f54 a0 a1 := by kernel_rfl
noncomputable def T63 (x : DenS I63) : Option (DenS O63) := t63 S54.pre S54.F x.1 x.2.1
noncomputable def C63 : Cfg := { P := Go.Proofs.Tryd.prog, sums := [(54, S54)], loops := [], globs := G0 }
noncomputable def S63 : Sum := sumOf I63 O63 T63 (DenS.dflt O63)
theorem S63_sound : Sound Go.Proofs.Tryd.prog G0 63 S63 :=
  fn_sound C63 9 63 Go.Proofs.Tryd.f63 mixedOk (by kernel_rfl) (by kernel_rfl) (by kernel_rfl) ⟨S54_sound, trivial⟩ trivial I63 O63 T63 _ fun x => r63 S54.pre S54.F x.1 x.2.1
/-- vernier/format.Class -/
abbrev I26 : Sig := [(false, .int .i64), (false, .int .u64)]
abbrev O26 : Sig := [(false, .int .i64), (false, .int .i64)]
noncomputable def t26 (p48 : DenS I48 → Bool) (f48 : DenS I48 → DenS O48) (p63 : DenS I63 → Bool) (f63 : DenS I63 → DenS O63) (p54 : DenS I54 → Bool) (f54 : DenS I54 → DenS O54) (a0 : Den (.int .i64)) (a1 : Den (.int .u64)) : Option (DenS O26) :=
  bif (p48 (a0, (a1, ()))) then
  (bif ((f48 (a0, (a1, ()))).1 != (0 : Int)) then
  (some ((0 : Int), (f48 (a0, (a1, ())))))
  else bif ((decide ((0 : Int) ≤ a0)) && (decide (a0 < ((4 : Nat) : Int)))) then
  (bif (p63 ((Vx.k_rows.getD (Int.toNat a0) ((0 : Int), ((0 : Int), ((0 : Int), ((0 : Int), ()))))), (a1, ()))) then
  (bif (p54 ((Go.IntKind.wrap Go.IntKind.i64 ((Vx.k_rows.getD (Int.toNat a0) ((0 : Int), ((0 : Int), ((0 : Int), ((0 : Int), ()))))).1 - (Vx.k_rows.getD (Int.toNat a0) ((0 : Int), ((0 : Int), ((0 : Int), ((0 : Int), ()))))).2.1)), ())) then
  (bif (((f63 ((Vx.k_rows.getD (Int.toNat a0) ((0 : Int), ((0 : Int), ((0 : Int), ((0 : Int), ()))))), (a1, ()))).2.1 == (f54 ((Go.IntKind.wrap Go.IntKind.i64 ((Vx.k_rows.getD (Int.toNat a0) ((0 : Int), ((0 : Int), ((0 : Int), ((0 : Int), ()))))).1 - (Vx.k_rows.getD (Int.toNat a0) ((0 : Int), ((0 : Int), ((0 : Int), ((0 : Int), ()))))).2.1)), ())).1) && ((f63 ((Vx.k_rows.getD (Int.toNat a0) ((0 : Int), ((0 : Int), ((0 : Int), ((0 : Int), ()))))), (a1, ()))).2.2.1 == (0 : Int))) then
  (bif (f63 ((Vx.k_rows.getD (Int.toNat a0) ((0 : Int), ((0 : Int), ((0 : Int), ((0 : Int), ()))))), (a1, ()))).1 then
  (some ((Go.IntKind.wrap Go.IntKind.i64 ((11 : Int) - (9 : Int))), ((0 : Int), ())))
  else some ((9 : Int), ((0 : Int), ())))
  else bif (p54 ((Go.IntKind.wrap Go.IntKind.i64 ((Vx.k_rows.getD (Int.toNat a0) ((0 : Int), ((0 : Int), ((0 : Int), ((0 : Int), ()))))).1 - (Vx.k_rows.getD (Int.toNat a0) ((0 : Int), ((0 : Int), ((0 : Int), ((0 : Int), ()))))).2.1)), ())) then
  (bif ((decide ((0 : Int) ≤ (Go.IntKind.wrap Go.IntKind.i64 ((Vx.k_rows.getD (Int.toNat a0) ((0 : Int), ((0 : Int), ((0 : Int), ((0 : Int), ()))))).2.1 - (2 : Int))))) || (!(decide ((f63 ((Vx.k_rows.getD (Int.toNat a0) ((0 : Int), ((0 : Int), ((0 : Int), ((0 : Int), ()))))), (a1, ()))).2.1 = (f54 ((Go.IntKind.wrap Go.IntKind.i64 ((Vx.k_rows.getD (Int.toNat a0) ((0 : Int), ((0 : Int), ((0 : Int), ((0 : Int), ()))))).1 - (Vx.k_rows.getD (Int.toNat a0) ((0 : Int), ((0 : Int), ((0 : Int), ((0 : Int), ()))))).2.1)), ())).1)))) then
  (bif (((f63 ((Vx.k_rows.getD (Int.toNat a0) ((0 : Int), ((0 : Int), ((0 : Int), ((0 : Int), ()))))), (a1, ()))).2.1 == (f54 ((Go.IntKind.wrap Go.IntKind.i64 ((Vx.k_rows.getD (Int.toNat a0) ((0 : Int), ((0 : Int), ((0 : Int), ((0 : Int), ()))))).1 - (Vx.k_rows.getD (Int.toNat a0) ((0 : Int), ((0 : Int), ((0 : Int), ((0 : Int), ()))))).2.1)), ())).1) && ((Vx.shrI Go.IntKind.u64 (f63 ((Vx.k_rows.getD (Int.toNat a0) ((0 : Int), ((0 : Int), ((0 : Int), ((0 : Int), ()))))), (a1, ()))).2.2.1 (Go.IntKind.wrap Go.IntKind.i64 ((Vx.k_rows.getD (Int.toNat a0) ((0 : Int), ((0 : Int), ((0 : Int), ((0 : Int), ()))))).2.1 - (2 : Int)))) != (0 : Int))) then
  (some ((1 : Int), ((0 : Int), ())))
  else bif (p54 ((Go.IntKind.wrap Go.IntKind.i64 ((Vx.k_rows.getD (Int.toNat a0) ((0 : Int), ((0 : Int), ((0 : Int), ((0 : Int), ()))))).1 - (Vx.k_rows.getD (Int.toNat a0) ((0 : Int), ((0 : Int), ((0 : Int), ((0 : Int), ()))))).2.1)), ())) then
  (bif ((f63 ((Vx.k_rows.getD (Int.toNat a0) ((0 : Int), ((0 : Int), ((0 : Int), ((0 : Int), ()))))), (a1, ()))).2.1 == (f54 ((Go.IntKind.wrap Go.IntKind.i64 ((Vx.k_rows.getD (Int.toNat a0) ((0 : Int), ((0 : Int), ((0 : Int), ((0 : Int), ()))))).1 - (Vx.k_rows.getD (Int.toNat a0) ((0 : Int), ((0 : Int), ((0 : Int), ((0 : Int), ()))))).2.1)), ())).1) then
  (some ((0 : Int), ((0 : Int), ())))
  else bif (((f63 ((Vx.k_rows.getD (Int.toNat a0) ((0 : Int), ((0 : Int), ((0 : Int), ((0 : Int), ()))))), (a1, ()))).2.1 == (0 : Int)) && ((f63 ((Vx.k_rows.getD (Int.toNat a0) ((0 : Int), ((0 : Int), ((0 : Int), ((0 : Int), ()))))), (a1, ()))).2.2.1 == (0 : Int))) then
  (bif (f63 ((Vx.k_rows.getD (Int.toNat a0) ((0 : Int), ((0 : Int), ((0 : Int), ((0 : Int), ()))))), (a1, ()))).1 then
  (some ((Go.IntKind.wrap Go.IntKind.i64 ((11 : Int) - (6 : Int))), ((0 : Int), ())))
  else some ((6 : Int), ((0 : Int), ())))
  else bif ((f63 ((Vx.k_rows.getD (Int.toNat a0) ((0 : Int), ((0 : Int), ((0 : Int), ((0 : Int), ()))))), (a1, ()))).2.1 == (0 : Int)) then
  (bif (f63 ((Vx.k_rows.getD (Int.toNat a0) ((0 : Int), ((0 : Int), ((0 : Int), ((0 : Int), ()))))), (a1, ()))).1 then
  (some ((Go.IntKind.wrap Go.IntKind.i64 ((11 : Int) - (7 : Int))), ((0 : Int), ())))
  else some ((7 : Int), ((0 : Int), ())))
  else bif (f63 ((Vx.k_rows.getD (Int.toNat a0) ((0 : Int), ((0 : Int), ((0 : Int), ((0 : Int), ()))))), (a1, ()))).1 then
  (some ((Go.IntKind.wrap Go.IntKind.i64 ((11 : Int) - (8 : Int))), ((0 : Int), ())))
  else some ((8 : Int), ((0 : Int), ())))
  else none)
  else none)
  else none)
  else none)
  else none)
  else none)
  else none
theorem r26 (p48 : DenS I48 → Bool) (f48 : DenS I48 → DenS O48) (p63 : DenS I63 → Bool) (f63 : DenS I63 → DenS O63) (p54 : DenS I54 → Bool) (f54 : DenS I54 → DenS O54) (a0 : Den (.int .i64)) (a1 : Den (.int .u64)) :
    run { P := Go.Proofs.Tryd.prog, sums := [(48, ⟨I48, O48, p48, f48⟩), (63, ⟨I63, O63, p63, f63⟩), (54, ⟨I54, O54, p54, f54⟩)], loops := [], globs := G0 } 9 26 Go.Proofs.Tryd.f26 I26 O26 (a0, a1, ()) = t26 p48 f48 p63 f63 p54 f54 a0 a1 := by kernel_rfl
noncomputable def T26 (x : DenS I26) : Option (DenS O26) := t26 S48.pre S48.F S63.pre S63.F S54.pre S54.F x.1 x.2.1
noncomputable def C26 : Cfg := { P := Go.Proofs.Tryd.prog, sums := [(48, S48), (63, S63), (54, S54)], loops := [], globs := G0 }
noncomputable def S26 : Sum := sumOf I26 O26 T26 (DenS.dflt O26)
theorem S26_sound : Sound Go.Proofs.Tryd.prog G0 26 S26 :=
  fn_sound C26 9 26 Go.Proofs.Tryd.f26 mixedOk (by kernel_rfl) (by kernel_rfl) (by kernel_rfl) ⟨S48_sound, ⟨S63_sound, ⟨S54_sound, trivial⟩⟩⟩ trivial I26 O26 T26 _ fun x => r26 S48.pre S48.F S63.pre S63.F S54.pre S54.F x.1 x.2.1
/-- vernier/format.sign -/
abbrev I64 : Sig := [(false, .int .i64)]
abbrev O64 : Sig := [(false, .int .u64)]
noncomputable def t64 (a0 : Den (.int .i64)) : Option (DenS O64) :=
  bif ((decide ((0 : Int) ≤ a0)) && (decide (a0 < ((4 : Nat) : Int)))) then
  (bif (decide ((0 : Int) ≤ (Go.IntKind.wrap Go.IntKind.i64 ((Vx.k_rows.getD (Int.toNat a0) ((0 : Int), ((0 : Int), ((0 : Int), ((0 : Int), ()))))).1 - (1 : Int))))) then
  (some ((Vx.shlI Go.IntKind.u64 (1 : Int) (Go.IntKind.wrap Go.IntKind.i64 ((Vx.k_rows.getD (Int.toNat a0) ((0 : Int), ((0 : Int), ((0 : Int), ((0 : Int), ()))))).1 - (1 : Int)))), ()))
  else none)
  else none
theorem r64 (a0 : Den (.int .i64)) :
    run { P := Go.Proofs.Tryd.prog, sums := [], loops := [], globs := G0 } 9 64 Go.Proofs.Tryd.f64 I64 O64 (a0, ()) = t64 a0 := by kernel_rfl
noncomputable def T64 (x : DenS I64) : Option (DenS O64) := t64 x.1
noncomputable def C64 : Cfg := { P := Go.Proofs.Tryd.prog, sums := [], loops := [], globs := G0 }
noncomputable def S64 : Sum := sumOf I64 O64 T64 (DenS.dflt O64)
theorem S64_sound : Sound Go.Proofs.Tryd.prog G0 64 S64 :=
  fn_sound C64 9 64 Go.Proofs.Tryd.f64 mixedOk (by kernel_rfl) (by kernel_rfl) (by kernel_rfl) trivial trivial I64 O64 T64 _ fun x => r64 x.1
/-- vernier/order.Compare -/
abbrev I11 : Sig := [(false, .int .i64), (false, .int .u64), (false, .int .u64), (false, .bool)]
abbrev O11 : Sig := [(false, .int .i64), (false, .int .i64), (false, .int .i64)]
/-- vernier/format.none -/
abbrev I78 : Sig := [(true, .pair (.int .i64) (.pair (.int .i64) (.pair (.int .i64) (.pair (.int .i64) (.unit)))))]
abbrev O78 : Sig := [(false, .int .u64)]
noncomputable def t78 (a0 : Den (.pair (.int .i64) (.pair (.int .i64) (.pair (.int .i64) (.pair (.int .i64) (.unit)))))) : Option (DenS O78) :=
  some ((0 : Int), ())
theorem r78 (a0 : Den (.pair (.int .i64) (.pair (.int .i64) (.pair (.int .i64) (.pair (.int .i64) (.unit)))))) :
    run { P := Go.Proofs.Tryd.prog, sums := [], loops := [], globs := G0 } 9 78 Go.Proofs.Tryd.f78 I78 O78 (a0, ()) = t78 a0 := by kernel_rfl
noncomputable def T78 (x : DenS I78) : Option (DenS O78) := t78 x.1
noncomputable def C78 : Cfg := { P := Go.Proofs.Tryd.prog, sums := [], loops := [], globs := G0 }
noncomputable def S78 : Sum := sumOf I78 O78 T78 (DenS.dflt O78)
theorem S78_sound : Sound Go.Proofs.Tryd.prog G0 78 S78 :=
  fn_sound C78 9 78 Go.Proofs.Tryd.f78 mixedOk (by kernel_rfl) (by kernel_rfl) (by kernel_rfl) trivial trivial I78 O78 T78 _ fun x => r78 x.1
/-- vernier/format.top -/
abbrev I90 : Sig := [(true, .pair (.int .i64) (.pair (.int .i64) (.pair (.int .i64) (.pair (.int .i64) (.unit)))))]
abbrev O90 : Sig := [(false, .int .u64)]
noncomputable def t90 (a0 : Den (.pair (.int .i64) (.pair (.int .i64) (.pair (.int .i64) (.pair (.int .i64) (.unit)))))) : Option (DenS O90) :=
  bif (decide ((0 : Int) ≤ (Go.IntKind.wrap Go.IntKind.i64 (a0.2.1 - (2 : Int))))) then
  (some ((Vx.shlI Go.IntKind.u64 (1 : Int) (Go.IntKind.wrap Go.IntKind.i64 (a0.2.1 - (2 : Int)))), ()))
  else none
theorem r90 (a0 : Den (.pair (.int .i64) (.pair (.int .i64) (.pair (.int .i64) (.pair (.int .i64) (.unit)))))) :
    run { P := Go.Proofs.Tryd.prog, sums := [], loops := [], globs := G0 } 9 90 Go.Proofs.Tryd.f90 I90 O90 (a0, ()) = t90 a0 := by kernel_rfl
noncomputable def T90 (x : DenS I90) : Option (DenS O90) := t90 x.1
noncomputable def C90 : Cfg := { P := Go.Proofs.Tryd.prog, sums := [], loops := [], globs := G0 }
noncomputable def S90 : Sum := sumOf I90 O90 T90 (DenS.dflt O90)
theorem S90_sound : Sound Go.Proofs.Tryd.prog G0 90 S90 :=
  fn_sound C90 9 90 Go.Proofs.Tryd.f90 mixedOk (by kernel_rfl) (by kernel_rfl) (by kernel_rfl) trivial trivial I90 O90 T90 _ fun x => r90 x.1
/-- vernier/format.join -/
abbrev I55 : Sig := [(true, .pair (.int .i64) (.pair (.int .i64) (.pair (.int .i64) (.pair (.int .i64) (.unit))))), (false, .bool), (false, .int .u64), (false, .int .u64)]
abbrev O55 : Sig := [(false, .int .u64)]
noncomputable def t55 (a0 : Den (.pair (.int .i64) (.pair (.int .i64) (.pair (.int .i64) (.pair (.int .i64) (.unit)))))) (a1 : Den (.bool)) (a2 : Den (.int .u64)) (a3 : Den (.int .u64)) : Option (DenS O55) :=
  bif (decide ((0 : Int) ≤ (Go.IntKind.wrap Go.IntKind.i64 (a0.2.1 - (1 : Int))))) then
  (bif a1 then
  (bif (decide ((0 : Int) ≤ (Go.IntKind.wrap Go.IntKind.i64 (a0.1 - (1 : Int))))) then
  (some ((Vx.orI Go.IntKind.u64 (Vx.orI Go.IntKind.u64 (Vx.shlI Go.IntKind.u64 a2 (Go.IntKind.wrap Go.IntKind.i64 (a0.2.1 - (1 : Int)))) a3) (Vx.shlI Go.IntKind.u64 (1 : Int) (Go.IntKind.wrap Go.IntKind.i64 (a0.1 - (1 : Int))))), ()))
  else none)
  else some ((Vx.orI Go.IntKind.u64 (Vx.shlI Go.IntKind.u64 a2 (Go.IntKind.wrap Go.IntKind.i64 (a0.2.1 - (1 : Int)))) a3), ()))
  else none
theorem r55 (a0 : Den (.pair (.int .i64) (.pair (.int .i64) (.pair (.int .i64) (.pair (.int .i64) (.unit)))))) (a1 : Den (.bool)) (a2 : Den (.int .u64)) (a3 : Den (.int .u64)) :
    run { P := Go.Proofs.Tryd.prog, sums := [], loops := [], globs := G0 } 9 55 Go.Proofs.Tryd.f55 I55 O55 (a0, a1, a2, a3, ()) = t55 a0 a1 a2 a3 := by kernel_rfl
noncomputable def T55 (x : DenS I55) : Option (DenS O55) := t55 x.1 x.2.1 x.2.2.1 x.2.2.2.1
noncomputable def C55 : Cfg := { P := Go.Proofs.Tryd.prog, sums := [], loops := [], globs := G0 }
noncomputable def S55 : Sum := sumOf I55 O55 T55 (DenS.dflt O55)
theorem S55_sound : Sound Go.Proofs.Tryd.prog G0 55 S55 :=
  fn_sound C55 9 55 Go.Proofs.Tryd.f55 mixedOk (by kernel_rfl) (by kernel_rfl) (by kernel_rfl) trivial trivial I55 O55 T55 _ fun x => r55 x.1 x.2.1 x.2.2.1 x.2.2.2.1
/-- vernier/format.NaN -/
abbrev I45 : Sig := [(false, .int .i64)]
abbrev O45 : Sig := [(false, .int .u64), (false, .int .i64)]
noncomputable def t45 (p78 : DenS I78 → Bool) (f78 : DenS I78 → DenS O78) (p90 : DenS I90 → Bool) (f90 : DenS I90 → DenS O90) (p22 : DenS I22 → Bool) (f22 : DenS I22 → DenS O22) (p54 : DenS I54 → Bool) (f54 : DenS I54 → DenS O54) (p55 : DenS I55 → Bool) (f55 : DenS I55 → DenS O55) (a0 : Den (.int .i64)) : Option (DenS O45) :=
  bif (p22 (a0, ())) then
  (bif ((f22 (a0, ())).2.1 != (0 : Int)) then
  (some ((0 : Int), (f22 (a0, ())).2))
  else bif (p54 ((Go.IntKind.wrap Go.IntKind.i64 ((f22 (a0, ())).1.1 - (f22 (a0, ())).1.2.1)), ())) then
  (bif (p78 ((f22 (a0, ())).1, ())) then
  (bif (p90 ((f22 (a0, ())).1, ())) then
  (bif (p55 ((f22 (a0, ())).1, (false, ((Go.IntKind.wrap Go.IntKind.u64 ((f54 ((Go.IntKind.wrap Go.IntKind.i64 ((f22 (a0, ())).1.1 - (f22 (a0, ())).1.2.1)), ())).1 - (f78 ((f22 (a0, ())).1, ())).1)), (f90 ((f22 (a0, ())).1, ())))))) then
  (some ((f55 ((f22 (a0, ())).1, (false, ((Go.IntKind.wrap Go.IntKind.u64 ((f54 ((Go.IntKind.wrap Go.IntKind.i64 ((f22 (a0, ())).1.1 - (f22 (a0, ())).1.2.1)), ())).1 - (f78 ((f22 (a0, ())).1, ())).1)), (f90 ((f22 (a0, ())).1, ())))))).1, ((0 : Int), ())))
  else none)
  else none)
  else none)
  else none)
  else none
theorem r45 (p78 : DenS I78 → Bool) (f78 : DenS I78 → DenS O78) (p90 : DenS I90 → Bool) (f90 : DenS I90 → DenS O90) (p22 : DenS I22 → Bool) (f22 : DenS I22 → DenS O22) (p54 : DenS I54 → Bool) (f54 : DenS I54 → DenS O54) (p55 : DenS I55 → Bool) (f55 : DenS I55 → DenS O55) (a0 : Den (.int .i64)) :
    run { P := Go.Proofs.Tryd.prog, sums := [(78, ⟨I78, O78, p78, f78⟩), (90, ⟨I90, O90, p90, f90⟩), (22, ⟨I22, O22, p22, f22⟩), (54, ⟨I54, O54, p54, f54⟩), (55, ⟨I55, O55, p55, f55⟩)], loops := [], globs := G0 } 9 45 Go.Proofs.Tryd.f45 I45 O45 (a0, ()) = t45 p78 f78 p90 f90 p22 f22 p54 f54 p55 f55 a0 := by kernel_rfl
noncomputable def T45 (x : DenS I45) : Option (DenS O45) := t45 S78.pre S78.F S90.pre S90.F S22.pre S22.F S54.pre S54.F S55.pre S55.F x.1
noncomputable def C45 : Cfg := { P := Go.Proofs.Tryd.prog, sums := [(78, S78), (90, S90), (22, S22), (54, S54), (55, S55)], loops := [], globs := G0 }
noncomputable def S45 : Sum := sumOf I45 O45 T45 (DenS.dflt O45)
theorem S45_sound : Sound Go.Proofs.Tryd.prog G0 45 S45 :=
  fn_sound C45 9 45 Go.Proofs.Tryd.f45 mixedOk (by kernel_rfl) (by kernel_rfl) (by kernel_rfl) ⟨S78_sound, ⟨S90_sound, ⟨S22_sound, ⟨S54_sound, ⟨S55_sound, trivial⟩⟩⟩⟩⟩ trivial I45 O45 T45 _ fun x => r45 S78.pre S78.F S90.pre S90.F S22.pre S22.F S54.pre S54.F S55.pre S55.F x.1
/-- vernier/format.Neg -/
abbrev I49 : Sig := [(false, .int .i64), (false, .int .u64)]
abbrev O49 : Sig := [(false, .int .u64), (false, .int .i64)]
noncomputable def t49 (p48 : DenS I48 → Bool) (f48 : DenS I48 → DenS O48) (p64 : DenS I64 → Bool) (f64 : DenS I64 → DenS O64) (a0 : Den (.int .i64)) (a1 : Den (.int .u64)) : Option (DenS O49) :=
  bif (p48 (a0, (a1, ()))) then
  (bif ((f48 (a0, (a1, ()))).1 != (0 : Int)) then
  (some ((0 : Int), (f48 (a0, (a1, ())))))
  else bif (p64 (a0, ())) then
  (some ((Vx.xorI Go.IntKind.u64 a1 (f64 (a0, ())).1), ((0 : Int), ())))
  else none)
  else none
theorem r49 (p48 : DenS I48 → Bool) (f48 : DenS I48 → DenS O48) (p64 : DenS I64 → Bool) (f64 : DenS I64 → DenS O64) (a0 : Den (.int .i64)) (a1 : Den (.int .u64)) :
    run { P := Go.Proofs.Tryd.prog, sums := [(48, ⟨I48, O48, p48, f48⟩), (64, ⟨I64, O64, p64, f64⟩)], loops := [], globs := G0 } 9 49 Go.Proofs.Tryd.f49 I49 O49 (a0, a1, ()) = t49 p48 f48 p64 f64 a0 a1 := by kernel_rfl
noncomputable def T49 (x : DenS I49) : Option (DenS O49) := t49 S48.pre S48.F S64.pre S64.F x.1 x.2.1
noncomputable def C49 : Cfg := { P := Go.Proofs.Tryd.prog, sums := [(48, S48), (64, S64)], loops := [], globs := G0 }
noncomputable def S49 : Sum := sumOf I49 O49 T49 (DenS.dflt O49)
theorem S49_sound : Sound Go.Proofs.Tryd.prog G0 49 S49 :=
  fn_sound C49 9 49 Go.Proofs.Tryd.f49 mixedOk (by kernel_rfl) (by kernel_rfl) (by kernel_rfl) ⟨S48_sound, ⟨S64_sound, trivial⟩⟩ trivial I49 O49 T49 _ fun x => r49 S48.pre S48.F S64.pre S64.F x.1 x.2.1
/-- vernier/vernierlaw13.fixed -/
abbrev I12 : Sig := []
abbrev O12 : Sig := [(false, .bool)]
/-- math.Float64frombits -/
abbrev I14 : Sig := [(false, .int .u64)]
abbrev O14 : Sig := [(false, .flt .f64)]
noncomputable def S14 : Sum := fromSum .f64
theorem S14_sound : Sound Go.Proofs.Tryd.prog G0 14 S14 := from_sound (e := Go.Extern.MathFloatBits.float64frombits) .f64 Go.Proofs.Tryd.func14 (by kernel_rfl) (by kernel_rfl) (by kernel_rfl) (by kernel_rfl) (fun _ => rfl)
/-- vernier/vernierlaw13.relation[float64] -/
abbrev I13 : Sig := [(false, .flt .f64), (false, .flt .f64)]
abbrev O13 : Sig := [(false, .int .i64)]
/-- math.Float32frombits -/
abbrev I16 : Sig := [(false, .int .u32)]
abbrev O16 : Sig := [(false, .flt .f32)]
noncomputable def S16 : Sum := fromSum .f32
theorem S16_sound : Sound Go.Proofs.Tryd.prog G0 16 S16 := from_sound (e := Go.Extern.MathFloatBits.float32frombits) .f32 Go.Proofs.Tryd.func16 (by kernel_rfl) (by kernel_rfl) (by kernel_rfl) (by kernel_rfl) (fun _ => rfl)
/-- vernier/vernierlaw13.relation[float32] -/
abbrev I15 : Sig := [(false, .flt .f32), (false, .flt .f32)]
abbrev O15 : Sig := [(false, .int .i64)]
/-- vernier/vernierlaw13.OrderMachine -/
abbrev I3 : Sig := [(false, .int .u64), (false, .int .u64)]
abbrev O3 : Sig := [(false, .bool)]
noncomputable def t3 (p11 : DenS I11 → Bool) (f11 : DenS I11 → DenS O11) (p12 : DenS I12 → Bool) (f12 : DenS I12 → DenS O12) (p14 : DenS I14 → Bool) (f14 : DenS I14 → DenS O14) (p13 : DenS I13 → Bool) (f13 : DenS I13 → DenS O13) (p16 : DenS I16 → Bool) (f16 : DenS I16 → DenS O16) (p15 : DenS I15 → Bool) (f15 : DenS I15 → DenS O15) (a0 : Den (.int .u64)) (a1 : Den (.int .u64)) : Option (DenS O3) :=
  bif (p11 ((3 : Int), (a0, (a1, (false, ()))))) then
  (bif (p11 ((2 : Int), ((Go.IntKind.wrap Go.IntKind.u64 (Go.IntKind.wrap Go.IntKind.u32 a0)), ((Go.IntKind.wrap Go.IntKind.u64 (Go.IntKind.wrap Go.IntKind.u32 a1)), (true, ()))))) then
  (bif (p12 ()) then
  (bif (((!(f12 ()).1) || ((f11 ((3 : Int), (a0, (a1, (false, ()))))).2.2.1 != (0 : Int))) || ((f11 ((2 : Int), ((Go.IntKind.wrap Go.IntKind.u64 (Go.IntKind.wrap Go.IntKind.u32 a0)), ((Go.IntKind.wrap Go.IntKind.u64 (Go.IntKind.wrap Go.IntKind.u32 a1)), (true, ()))))).2.2.1 != (0 : Int))) then
  (some (false, ()))
  else bif (p14 (a0, ())) then
  (bif (p14 (a1, ())) then
  (bif (p13 ((f14 (a0, ())).1, (f14 (a1, ())))) then
  (bif ((p16 ((Go.IntKind.wrap Go.IntKind.u32 a0), ())) || (!(decide ((f11 ((3 : Int), (a0, (a1, (false, ()))))).1 = (f13 ((f14 (a0, ())).1, (f14 (a1, ())))).1)))) then
  (bif ((p16 ((Go.IntKind.wrap Go.IntKind.u32 a1), ())) || (!(decide ((f11 ((3 : Int), (a0, (a1, (false, ()))))).1 = (f13 ((f14 (a0, ())).1, (f14 (a1, ())))).1)))) then
  (bif ((p15 ((f16 ((Go.IntKind.wrap Go.IntKind.u32 a0), ())).1, (f16 ((Go.IntKind.wrap Go.IntKind.u32 a1), ())))) || (!(decide ((f11 ((3 : Int), (a0, (a1, (false, ()))))).1 = (f13 ((f14 (a0, ())).1, (f14 (a1, ())))).1)))) then
  (some ((((f11 ((3 : Int), (a0, (a1, (false, ()))))).1 == (f13 ((f14 (a0, ())).1, (f14 (a1, ())))).1) && ((f11 ((2 : Int), ((Go.IntKind.wrap Go.IntKind.u64 (Go.IntKind.wrap Go.IntKind.u32 a0)), ((Go.IntKind.wrap Go.IntKind.u64 (Go.IntKind.wrap Go.IntKind.u32 a1)), (true, ()))))).1 == (f15 ((f16 ((Go.IntKind.wrap Go.IntKind.u32 a0), ())).1, (f16 ((Go.IntKind.wrap Go.IntKind.u32 a1), ())))).1)), ()))
  else none)
  else none)
  else none)
  else none)
  else none)
  else none)
  else none)
  else none)
  else none
theorem r3 (p11 : DenS I11 → Bool) (f11 : DenS I11 → DenS O11) (p12 : DenS I12 → Bool) (f12 : DenS I12 → DenS O12) (p14 : DenS I14 → Bool) (f14 : DenS I14 → DenS O14) (p13 : DenS I13 → Bool) (f13 : DenS I13 → DenS O13) (p16 : DenS I16 → Bool) (f16 : DenS I16 → DenS O16) (p15 : DenS I15 → Bool) (f15 : DenS I15 → DenS O15) (a0 : Den (.int .u64)) (a1 : Den (.int .u64)) :
    run { P := Go.Proofs.Tryd.prog, sums := [(11, ⟨I11, O11, p11, f11⟩), (12, ⟨I12, O12, p12, f12⟩), (14, ⟨I14, O14, p14, f14⟩), (13, ⟨I13, O13, p13, f13⟩), (16, ⟨I16, O16, p16, f16⟩), (15, ⟨I15, O15, p15, f15⟩)], loops := [], globs := G0 } 9 3 Go.Proofs.Tryd.f3 I3 O3 (a0, a1, ()) = t3 p11 f11 p12 f12 p14 f14 p13 f13 p16 f16 p15 f15 a0 a1 := by kernel_rfl
end Vx
