/- Part 3 of the proof. What is proved: symbolic execution of the functions, proved sound; what each function of the program computes, and that every run ends with it; what these functions compute, in plain numbers. Conditions: each theorem bears its own. -/
import Derived.Test.YtblmecpfokfjpaaDoorVxG2
import Derived.Laws.Sem
import Derived.Laws.Externs
import Derived.Test.YtblmecpfokfjpaaDoorProg
import Derived.IntWalk
import Ieee.Arith
import Derived.ProofKit
import Derived.LaidMore
import Derived.OpenShut
import Derived.Stop.Joined
import GoSem.ClaimJoined
set_option linter.all false
set_option exponentiation.threshold 1000000
namespace Vx
open Go Go.RowKit
variable {C : Cfg} {base : Base} {S0 : Nat → Prop} {s0 : St} {S : Nat → St} {xs : Nat → TV} {fs : Nat → FP}
theorem headLen_le : ∀ (l : List Oper), headLen l ≤ l.length
  | [] => Nat.le_refl _
  | o :: r => by
    simp only [headLen]
    cases Nat.blt (memKind o.op) 3 with
    | true => simp only [cond_true, List.length_cons]; have := headLen_le r; omega
    | false => simp
theorem allIn_spec {l : List Nat} : ∀ {n : Nat}, allIn l n = true → ∀ j, j < n → j ∈ l
  | 0, _, j, h => by omega
  | n + 1, h, j, hj => by
    simp only [allIn, Bool.and_eq_true] at h
    rcases Nat.lt_or_ge j n with h1 | h1
    · exact allIn_spec h.2 j h1
    · have : j = n := by omega
      subst this
      exact memB_iff.1 h.1
theorem tailRest_spec : ∀ {l : List Oper} {i : Nat}, tailRest i l = true → ∀ k o, l[k]? = some o → o.guard = none ∧ i + k ∈ preds o ∧ ∀ p ∈ preds o, p < i + k + 1
  | [], i, _, k, o, h => by simp at h
  | x :: r, i, h, k, o, hk => by
    simp only [tailRest, Bool.and_eq_true] at h
    cases k with
    | zero =>
      simp at hk; subst hk
      refine ⟨?_, memB_iff.1 h.1.1.2, allLt_iff h.1.2⟩
      have := h.1.1.1
      unfold noGuard at this
      split at this
      · assumption
      · cases this
    | succ k =>
      have := tailRest_spec h.2 k o (by simpa using hk)
      exact ⟨this.1, by rw [show i + (k + 1) = i + 1 + k by omega]; exact this.2.1, by rw [show i + (k + 1) + 1 = i + 1 + k + 1 by omega]; exact this.2.2⟩
/-- what is listed is a beginning, and what comes is a row: each in its turn -/
theorem tail_any {opsA : Array Oper} {Q : Exit → Act → World → Prop} {n : Nat} (hrest : ∀ i o, n < i → opsA[i]? = some o → i - 1 ∈ preds o) (hbefore : ∀ i o, n ≤ i → opsA[i]? = some o → ∀ p ∈ preds o, p < i) :
    ∀ (fuel k : Nat) (listed : Array Bool) (a : Act) (w : World), n ≤ k → listed.size = opsA.size → (∀ i, listed.getD i false = true ↔ i < k) → k ≤ opsA.size → opsA.size - k ≤ fuel →
      wpList C.P opsA Q (opsA.toList.drop k) a w → wpAny C.P .any opsA Q fuel listed a w := by
  intro fuel
  have hready : ∀ (k : Nat) (listed : Array Bool), n ≤ k → listed.size = opsA.size → (∀ i, listed.getD i false = true ↔ i < k) → ∀ i ∈ Region.ready .any opsA listed, i = k := fun k listed hnk hs hl i hi => by
    obtain ⟨h1, o, ho, hall⟩ := mem_ready.1 hi
    have hil : i < opsA.size := (Array.getElem?_eq_some_iff.1 ho).1
    have hil' : i < listed.size := by omega
    have hni : ¬ i < k := fun h => by
      have := (hl i).2 h
      simp [Array.getD, hil'] at h1 this
      rw [this] at h1; cases h1
    rcases Nat.lt_or_ge k i with hki | hki
    · exfalso
      have := hrest i o (by omega) ho
      obtain ⟨e, he, hb, hon⟩ := mem_preds.1 this
      have := (hl e.on).1 (hall e he hb)
      omega
    · omega
  induction fuel with
  | zero =>
    intro k listed a w hnk hs hl hk hf hw
    have hke : k = opsA.size := by omega
    subst hke
    have hdrop : opsA.toList.drop opsA.size = [] := by simp
    rw [hdrop] at hw
    refine ⟨?_, hw⟩
    cases hr : Region.ready .any opsA listed with
    | nil => rfl
    | cons i r =>
      exfalso
      have hi : i ∈ Region.ready .any opsA listed := by rw [hr]; simp
      have := hready _ listed hnk hs hl i hi
      obtain ⟨_, o, ho, _⟩ := mem_ready.1 hi
      have := (Array.getElem?_eq_some_iff.1 ho).1
      omega
  | succ fuel ih =>
    intro k listed a w hnk hs hl hk hf hw
    rcases Nat.lt_or_ge k opsA.size with hlt | hge
    · have hget : opsA[k]? = some opsA[k] := by simp [hlt]
      have hdrop : opsA.toList.drop k = opsA[k] :: opsA.toList.drop (k + 1) := by
        rw [List.drop_eq_getElem_cons (by simpa using hlt)]; simp
      rw [hdrop] at hw
      refine ⟨fun hnil => ?_, fun i hi => ?_⟩
      · exfalso
        have : k ∈ Region.ready .any opsA listed := by
          rw [mem_ready]
          have hil : k < listed.size := by omega
          refine ⟨?_, opsA[k], hget, fun e he hbd => ?_⟩
          · have h0 : ¬ listed.getD k false = true := fun h => absurd ((hl k).1 h) (Nat.lt_irrefl _)
            simpa [Array.getD, hil] using h0
          · exact (hl e.on).2 (hbefore k opsA[k] hnk hget e.on (mem_preds.2 ⟨e, he, hbd, rfl⟩))
        rw [hnil] at this; simp at this
      · have := hready k listed hnk hs hl i hi
        subst this
        have hil' : i < listed.size := by omega
        have hset : ∀ j, (listed.setIfInBounds i true).getD j false = true ↔ j < i + 1 := fun j => by
          by_cases hj : j = i
          · subst hj; simp [Array.getD, hil']
          · rw [Array.getD_eq_getD_getElem?, Array.getElem?_setIfInBounds_ne (fun e => hj e.symm), ← Array.getD_eq_getD_getElem?, hl j]
            omega
        simp only [wpList] at hw
        unfold wpOp
        rw [hget]
        simp only
        split
        · rename_i hwant
          rw [if_pos hwant] at hw
          rcases hw with hw | hw
          · exact .inl (Oper.wp_mono (fun a' w' h => ih (i + 1) _ a' w' (by omega) (by simpa using hs) hset hlt (by omega) h) hw)
          · exact .inr hw
        · rename_i hwant
          rw [if_neg hwant] at hw
          exact ih (i + 1) _ _ w (by omega) (by simpa using hs) hset hlt (by omega) hw
    · have hke : k = opsA.size := by omega
      subst hke
      have hdrop : opsA.toList.drop opsA.size = [] := by simp
      rw [hdrop] at hw
      refine ⟨fun _ => hw, fun i hi => ?_⟩
      exfalso
      have := hready _ listed hnk hs hl i hi
      obtain ⟨_, o, ho, _⟩ := mem_ready.1 hi
      have := (Array.getElem?_eq_some_iff.1 ho).1
      omega
/-- the draw of the head, then the tail -/
theorem draw_head (hC : SumsOk C) {opsA : Array Oper} {n : Nat} (hn : n ≤ opsA.size) (hR : Reg C (opsA.toList.take n) s0 S xs fs) (hT : tailOk (opsA.toList.take n) n (opsA.toList.drop n) = true) {σ0 : Sit} (hG0 : GlobsOk C.globs σ0.w σ0.S) {Q : Exit → Act → World → Prop}
    (hQ : ∀ σ' a', Ok base S0 σ' → Adv σ0 σ' → RelT σ' (S n) a' → wpList C.P opsA Q (opsA.toList.drop n) a' σ'.w) :
    ∀ (fuel : Nat) (listed : Array Bool) (σ : Sit) (a : Act), listed.size = opsA.size → (List.range opsA.size).countP (fun i => !listed.getD i false) ≤ fuel → (∀ i, n ≤ i → listed.getD i false = false) →
      Inv C (opsA.toList.take n) s0 S xs fs base S0 σ0 (fun i => listed.getD i false = true) σ a → wpAny C.P .any opsA Q fuel listed a σ.w := by
  have hlen : (opsA.toList.take n).length = n := by simp; omega
  have hH : ∀ i, i < n → (opsA.toList.take n)[i]? = opsA[i]? := fun i hi => by rw [List.getElem?_take_of_lt hi]; simp
  have htail : ∀ i o, n ≤ i → opsA[i]? = some o → (n < i → i - 1 ∈ preds o) ∧ (∀ p ∈ preds o, p < i) ∧ (i = n → ∀ j, j < n → j ∈ (preds o).flatMap fun i => i :: anc (opsA.toList.take n) i) := fun i o hi ho => by
    have hdrop : (opsA.toList.drop n)[i - n]? = some o := by
      rw [List.getElem?_drop, show n + (i - n) = i by omega]; simpa using ho
    cases hd : opsA.toList.drop n with
    | nil => rw [hd] at hdrop; simp at hdrop
    | cons x r =>
      rw [hd] at hdrop hT
      simp only [tailOk, Bool.and_eq_true] at hT
      obtain ⟨⟨⟨t1, t2⟩, t3⟩, t4⟩ := hT
      rcases Nat.eq_or_lt_of_le hi with heq | hgt
      · subst heq
        rw [Nat.sub_self] at hdrop
        simp at hdrop
        subst hdrop
        exact ⟨fun h => absurd h (Nat.lt_irrefl _), allLt_iff t3, fun _ j hj => allIn_spec t2 j hj⟩
      · obtain ⟨k, rfl⟩ : ∃ k, i = n + 1 + k := ⟨i - n - 1, by omega⟩
        rw [show n + 1 + k - n = k + 1 by omega] at hdrop
        have := tailRest_spec t4 k o (by simpa using hdrop)
        refine ⟨fun _ => by rw [show n + 1 + k - 1 = n + k by omega]; exact this.2.1, fun p hp => ?_, fun h => by omega⟩
        have := this.2.2 p hp
        omega
  have hdone : ∀ (fuel : Nat) (listed : Array Bool) (σ : Sit) (a : Act), listed.size = opsA.size → (List.range opsA.size).countP (fun i => !listed.getD i false) ≤ fuel → (∀ i, n ≤ i → listed.getD i false = false) → (∀ i, i < n → listed.getD i false = true) →
      Inv C (opsA.toList.take n) s0 S xs fs base S0 σ0 (fun i => listed.getD i false = true) σ a → wpAny C.P .any opsA Q fuel listed a σ.w := fun fuel listed σ a hs hc hno hall hI => by
    have hl : ∀ i, listed.getD i false = true ↔ i < n := fun i => by
      rcases Nat.lt_or_ge i n with h | h
      · exact ⟨fun _ => h, fun _ => hall i h⟩
      · exact ⟨fun h' => (by rw [hno i h] at h'; cases h'), fun h' => by omega⟩
    have hrel := hI.done hR (fun i hi => hall i (by rw [hlen] at hi; exact hi))
    rw [hlen] at hrel
    refine tail_any (n := n) (fun i o hi ho => (htail i o (by omega) ho).1 hi) (fun i o hi ho => (htail i o hi ho).2.1) fuel n listed a σ.w (Nat.le_refl _) hs hl hn ?_ (hQ σ a hI.ok hI.adv hrel)
    refine Nat.le_trans ?_ hc
    have : (List.range opsA.size).countP (fun i => !listed.getD i false) = (List.range opsA.size).countP (fun i => decide (n ≤ i)) := by
      refine List.countP_congr fun i _ => ?_
      rcases Nat.lt_or_ge i n with h | h
      · rw [hall i h]; simp; omega
      · rw [hno i h]; simp; omega
    rw [this]
    have key : ∀ m, m - n ≤ (List.range m).countP (fun i => decide (n ≤ i)) := fun m => by
      induction m with
      | zero => simp
      | succ m ih =>
        rw [List.range_succ, List.countP_append]
        simp only [List.countP_cons, List.countP_nil, decide_eq_true_eq]
        split <;> omega
    exact key _
  intro fuel
  induction fuel with
  | zero =>
    intro listed σ a hs hc hno hI
    refine hdone 0 listed σ a hs hc hno (fun i hi => ?_) hI
    have h0 : (List.range opsA.size).countP (fun i => !listed.getD i false) = 0 := by omega
    rw [List.countP_eq_zero] at h0
    have := h0 i (List.mem_range.2 (by omega))
    simpa using this
  | succ fuel ih =>
    intro listed σ a hs hc hno hI
    by_cases hall : ∀ i, i < n → listed.getD i false = true
    · exact hdone (fuel + 1) listed σ a hs hc hno hall hI
    · have hex : ∃ j, j < n ∧ listed.getD j false = false ∧ ∀ k, k < j → listed.getD k false = true := by
        obtain ⟨j, hj⟩ := Classical.not_forall.1 hall
        obtain ⟨hj1, hj2⟩ := Classical.not_imp.1 hj
        have hj2 : listed.getD j false = false := by simpa using hj2
        have : ∀ m, ∀ j, j ≤ m → j < n → listed.getD j false = false → ∃ j, j < n ∧ listed.getD j false = false ∧ ∀ k, k < j → listed.getD k false = true := fun m => by
          induction m with
          | zero => intro j hj h1 h2; exact ⟨j, h1, h2, fun k hk => by omega⟩
          | succ m ihm =>
            intro j hj h1 h2
            by_cases hk : ∀ k, k < j → listed.getD k false = true
            · exact ⟨j, h1, h2, hk⟩
            · obtain ⟨k, hk⟩ := Classical.not_forall.1 hk
              obtain ⟨hk1, hk2⟩ := Classical.not_imp.1 hk
              exact ihm k (by omega) (by omega) (by simpa using hk2)
        exact this j j (Nat.le_refl _) hj1 hj2
      refine ⟨fun hnil => ?_, fun i hi => ?_⟩
      · exfalso
        obtain ⟨j, h1, h2, h3⟩ := hex
        have : j ∈ Region.ready .any opsA listed := by
          rw [mem_ready]
          have hil : j < listed.size := by omega
          refine ⟨by simpa [Array.getD, hil] using h2, opsA[j], by simp [show j < opsA.size by omega], fun e he hbd => ?_⟩
          have hlt := (hR.row (j := j) (y := opsA[j]) (by rw [hH j h1]; simp [show j < opsA.size by omega])).1 e.on (mem_preds.2 ⟨e, he, hbd, rfl⟩)
          exact h3 e.on hlt
        rw [hnil] at this; simp at this
      · obtain ⟨h1, o, ho, hpre⟩ := mem_ready.1 hi
        have hil : i < opsA.size := (Array.getElem?_eq_some_iff.1 ho).1
        have hil' : i < listed.size := by omega
        have h1' : listed.getD i false = false := by simpa [Array.getD, hil'] using h1
        have hin : i < n := by
          rcases Nat.lt_or_ge i n with h | h
          · exact h
          · exfalso
            obtain ⟨t1, t2, t3⟩ := htail i o h ho
            rcases Nat.eq_or_lt_of_le h with heq | hgt
            · subst heq
              obtain ⟨j, g1, g2, _⟩ := hex
              obtain ⟨q, hq, hqj⟩ := List.mem_flatMap.1 (t3 rfl j g1)
              have hql : listed.getD q false = true := by
                obtain ⟨e, he, hb, rfl⟩ := mem_preds.1 hq
                exact hpre e he hb
              rcases List.mem_cons.1 hqj with rfl | hqj
              · rw [g2] at hql; cases hql
              · have := hI.closed q hql j hqj
                rw [g2] at this; cases this
            · obtain ⟨e, he, hb, hon⟩ := mem_preds.1 (t1 hgt)
              have := hpre e he hb
              rw [hon, hno (i - 1) (by omega)] at this
              cases this
        have hset : ∀ k, (listed.setIfInBounds i true).getD k false = true ↔ (k = i ∨ listed.getD k false = true) := fun k => by
          by_cases hk : k = i
          · subst hk; simp [Array.getD, hil']
          · rw [Array.getD_eq_getD_getElem?, Array.getElem?_setIfInBounds_ne (fun e => hk e.symm), ← Array.getD_eq_getD_getElem?]
            simp [hk]
        have hstep := draw_op (opsA := (opsA.toList.take n).toArray) (K := wpAny C.P .any opsA Q fuel (listed.setIfInBounds i true)) (Q := Q) hC hR hG0 hI (j := i) (o := o) ((hH i hin).trans ho)
          (fun k hk => by obtain ⟨e, he, hb, rfl⟩ := mem_preds.1 hk; exact hpre e he hb) (by simp [h1'])
          (fun σ' a' hI' => ih _ σ' a' (by simpa using hs) ?_ ?_ ?_)
        · have hw : Region.wanted o (yielded (opsA.toList.take n).toArray a.tmps) = Region.wanted o (yielded opsA a.tmps) := by
            unfold Region.wanted
            cases hg : o.guard with
            | none => rfl
            | some gp =>
              obtain ⟨gi, p⟩ := gp
              have hgi := (hR.row (j := i) (y := o) (by rw [hH i hin]; exact ho)).2.2.2.2 gi p hg
              simp only
              unfold yielded
              have : ((opsA.toList.take n).toArray[gi]?) = opsA[gi]? := by
                rw [List.getElem?_toArray]; exact hH gi (by omega)
              rw [this]
          rw [hw] at hstep
          unfold wpOp
          rw [ho]
          simp only
          split
          · rename_i hwant; rw [if_pos hwant] at hstep; exact .inl hstep
          · rename_i hwant; rw [if_neg hwant] at hstep; exact hstep
        · have := countP_lt (p := fun i => !listed.getD i false) (q := fun k => !(listed.setIfInBounds i true).getD k false) (j := i) (fun k hk => by
            simp only [Bool.not_eq_true'] at hk ⊢
            cases hb : listed.getD k false with
            | false => rfl
            | true => rw [(hset k).2 (.inr hb)] at hk; cases hk) (by simp [h1']) (by simp only [Bool.not_eq_false']; exact (hset i).2 (.inl rfl)) (List.range opsA.size) (List.mem_range.2 hil)
          omega
        · intro k hk
          cases hb : (listed.setIfInBounds i true).getD k false with
          | false => rfl
          | true =>
            rcases (hset k).1 hb with rfl | h
            · omega
            · rw [hno k hk] at h; cases h
        · have : (fun k => (listed.setIfInBounds i true).getD k false = true) = (fun k => k = i ∨ listed.getD k false = true) := funext fun k => propext (hset k)
          rw [this]
          exact hI'
/-- a region whose order is drawn, with its tail -/
theorem draw_ok6 (hP : ProgOk C) {opsA : Array Oper} {n : Nat} (hn : n ≤ opsA.size) {fps : List FP} {gs : List Bool} {s s' : St} (hd : okDraw (opsA.toList.take n) fps = true) (hT : tailOk (opsA.toList.take n) n (opsA.toList.drop n) = true) (he : drawRun C (opsA.toList.take n) (opsA.toList.take n) s = some (fps, gs, s')) (hgs : ∀ g ∈ gs, g = true) (hcs : s.cs = [])
    {σ : Sit} {a : Act} (ho : Ok base S0 σ) (hr : RelT σ s a) (hG : GlobsOk C.globs σ.w σ.S) {id : Nat} {Q : Exit → Act → World → Prop}
    (hQ : ∀ σ' a', Ok base S0 σ' → Adv σ σ' → RelT σ' s' a' → s'.m0 = s.m0 → wpList C.P opsA Q (opsA.toList.drop n) a' σ'.w) : (Code.region id opsA true).wp C.P Q a σ.w := by
  have hlen : (opsA.toList.take n).length = n := by simp; omega
  obtain ⟨S, xs, fs, h0, h1, h2, h3⟩ := trace_from _ _ _ _ _ he hgs
  have hR : Reg C (opsA.toList.take n) s S xs fs := ⟨⟨fps, hd, h0⟩, ⟨h1, h3⟩, hcs⟩
  rw [hlen] at h2
  obtain ⟨k1, k2⟩ := ok_drew (n := σ.w.drawn + 1) ho
  refine wp_region_any hP.mixed ?_
  have hstart := Inv.start hR k1 (show RelT _ s a from ⟨hr.size, hr.defers, hr.mem, fun t => RepT.keep k2.moves.rep (hr.tm t), fun d g p x hm => ⟨fun h => RepT.keep k2.moves.rep ((hr.cs d g p x hm).1 h), (hr.cs d g p x hm).2⟩⟩)
  have hm0 : s'.m0 = s.m0 := by
    rw [← h2]; exact (hR.parts _ (by rw [hlen]; exact Nat.le_refl _)).2
  refine draw_head hP.sums hn hR hT (σ0 := { σ with w := { σ.w with drawn := σ.w.drawn + 1 } }) (hG.adv k2.adv) (fun σ' a' q1 q2 q3 => hQ σ' a' q1 (k2.adv.trans q2) (by rw [← h2]; exact q3) hm0) opsA.size (Array.replicate opsA.size false) { σ with w := { σ.w with drawn := σ.w.drawn + 1 } } a (by simp) ?_ (fun i _ => by simp [Array.getD]) ?_
  · refine Nat.le_trans (List.countP_le_length) ?_
    simp
  · have : (fun i => (Array.replicate opsA.size false).getD i false = true) = fun _ => False := funext fun i => by
      simp [Array.getD]
    rw [this]
    exact hstart
end Vx
namespace Vx
open Go Go.RowKit
/-- a block as it was, or forgotten, or its cells known less well -/
def RelB (e e' : Blk) : Prop :=
  match e' with
  | .gone => True
  | .raw _ => ∃ cs, e = .raw cs
  | .arr τ xs => e = .arr τ xs
  | .acc τ xs => e = .acc τ xs
  | .froz τ xs => e = .froz τ xs
structure Cut (σ σ' : Sit) : Prop where
  E : σ'.E = σ.E
  w : σ'.w = σ.w
  S : σ'.S = σ.S
  rel : ∀ b, RelB (blkAt σ.mem b) (blkAt σ'.mem b)
variable {σ σ' : Sit}
theorem cast_same {τ' τ : Shape} {xs : List (Den τ')} {ys : List (Den τ)} (h : castL τ' τ xs = some ys) : (⟨τ', xs⟩ : Sigma fun τ => List (Den τ)) = ⟨τ, ys⟩ := by
  obtain ⟨rfl, rfl⟩ := castL_eq h; rfl
theorem readC_ok (hc : Cut σ σ') : ∀ {c : PC} {z : SC} {d : c.D} {y : Value}, readC σ.mem σ'.mem.length c z = some d → RepC σ z y → RepC σ' (buildC c d) y
  | .v k, z, d, y, h, hz => by
    simp only [readC] at h
    split at h
    · split at h
      · rename_i k' n hk; subst hk; cases h; exact hz
      · cases h
    · cases h
  | .bool, z, d, y, h, hz => by
    simp only [readC] at h
    split at h
    · cases h; exact hz
    · cases h
  | .str, z, d, y, h, hz => by
    simp only [readC] at h
    split at h
    · cases h; exact hz
    · cases h
  | .fnv, z, d, y, h, hz => by
    simp only [readC] at h
    split at h
    · cases h
      obtain ⟨rfl, _⟩ := hz
      exact (rfl : [Value.nilFunc] = _)
    · cases h
      obtain ⟨_, _, h1⟩ := hz
      rcases h1 with ⟨p, hp, _⟩ | ⟨rs, h1, rfl⟩
      · simp at hp
      · simp [buildC, RepC, DRep]
    · cases h; exact hz
    · cases h
  | .sl τ, z, d, y, h, hz => by
    have key : ∀ {τ' : Shape} {xs : List (Den τ')}, castL τ' τ xs = some d → DRep σ.w σ.S (.slice τ') xs [y] → DRep σ'.w σ'.S (.slice τ) d [y] := fun hcast hd => by
      have := castL_rep hcast hd
      rw [hc.w, hc.S]; exact this
    simp only [readC] at h
    split at h
    · exact key h hz
    · cases h
      obtain ⟨rfl, _⟩ := hz
      exact nil_rep τ
    · split at h
      · rename_i b' τ' xs e
        obtain ⟨_, _, hz⟩ := hz
        rw [e] at hz
        exact key h hz
      · cases h
    · cases h
  | .fl k, z, d, y, h, hz => by
    simp only [readC] at h
    split at h
    · split at h
      · rename_i k' o hk; subst hk; cases h; exact hz
      · cases h
    · cases h
  | .own b, z, d, y, h, hz => by
    simp only [readC] at h
    split at h
    · rename_i b'
      obtain ⟨hb, _⟩ := cond_some h
      simp only [Bool.and_eq_true] at hb
      have : b' = b := Nat.eq_of_beq_eq_true hb.1
      subst this
      obtain ⟨h1, h2, h3⟩ := hz
      refine ⟨by simpa using hb.2, h2, ?_⟩
      have hr := hc.rel b'
      unfold RelB at hr
      cases e : blkAt σ'.mem b' with
      | gone => trivial
      | raw cs => trivial
      | arr τ xs => rw [e] at hr; rw [hr] at h3; simp only at h3 ⊢; rw [hc.E]; exact h3
      | acc τ xs => rw [e] at hr; rw [hr] at h3; simp only at h3 ⊢; rw [hc.E]; exact h3
      | froz τ xs => rw [e] at hr; rw [hr] at h3; simp only at h3 ⊢; rw [hc.w, hc.S]; exact h3
    · cases h
  | .ptr b off, z, d, y, h, hz => by
    simp only [readC] at h
    split at h
    · rename_i b' off'
      obtain ⟨hb, _⟩ := cond_some h
      simp only [Bool.and_eq_true] at hb
      have : b' = b := Nat.eq_of_beq_eq_true hb.1.1
      subst this
      have : off' = off := Nat.eq_of_beq_eq_true hb.1.2
      subst this
      obtain ⟨h1, h2, h3⟩ := hz
      refine ⟨by simpa using hb.2, h2, ?_⟩
      have hr := hc.rel b'
      unfold RelB at hr
      cases e : blkAt σ'.mem b' with
      | gone => trivial
      | raw cs => rw [e] at hr; obtain ⟨cs', hr⟩ := hr; rw [hr] at h3; simp only at h3 ⊢; rw [hc.E]; exact h3
      | arr τ xs => rw [e] at hr; rw [hr] at h3; simp only at h3 ⊢; rw [hc.E]; exact h3
      | acc τ xs => trivial
      | froz τ xs => trivial
    · cases h
  | .gptr g, z, d, y, h, hz => by
    simp only [readC] at h
    split at h
    · rename_i g'
      have : g' = g := Nat.eq_of_beq_eq_true (cond_some h).1
      subst this
      exact hz
    · cases h
  | .fn f, z, d, y, h, hz => by
    simp only [readC] at h
    split at h
    · rename_i f'
      have : f' = f := Nat.eq_of_beq_eq_true (cond_some h).1
      subst this
      obtain ⟨_, h2, h1⟩ := hz
      rcases h1 with ⟨p, hp, _⟩ | ⟨rs, h1, rfl⟩
      · simp at hp
      · exact ⟨by simp, h2, .inr ⟨rs, h1, rfl⟩⟩
    · cases h
  | .nilp, z, d, y, h, hz => by
    simp only [readC] at h
    split at h
    · cases h; exact hz
    · cases h
  | .undef, z, d, y, h, hz => hz.scalar
theorem readCs_ok (hc : Cut σ σ') : ∀ {l : List PC} {zs : List SC} {d : PCs l} {ys : List Value}, readCs σ.mem σ'.mem.length l zs = some d → All2 (RepC σ) zs ys → All2 (RepC σ') (buildCs l d) ys
  | [], [], _, _, _, .nil => .nil
  | [], _ :: _, _, _, h, _ => by simp [readCs] at h
  | _ :: _, [], _, _, h, _ => by simp [readCs] at h
  | c :: r, z :: zs, d, _, h, .cons h1 h2 => by
    simp only [readCs] at h
    split at h
    · rename_i e1 e2
      cases h
      exact .cons (readC_ok hc e1 h1) (readCs_ok hc e2 h2)
    · cases h
theorem readV_ok (hc : Cut σ σ') {v : PV} {x : TV} {d : v.D} {y : Value} (h : readV σ.mem σ'.mem.length v x = some d) (hx : RepT σ x y) : RepV σ' (buildV v d) y := by
  unfold readV at h
  split at h
  · exact readC_ok hc h hx
  · obtain ⟨ys, e, ha⟩ := hx
    exact ⟨ys, e, readCs_ok hc h ha⟩
  · cases h
theorem readTm_ok (hc : Cut σ σ') {s : St} (hm : σ.mem = s.mem) {ys : Nat → Value} (ht : ∀ t, RepT σ (getT s.tm t) (ys t)) : ∀ {l : List (Nat × PV)} {d : PTm l}, readTm s σ'.mem.length l = some d → ∀ t, RepT σ' (getT (buildTm l d) t) (ys t)
  | [], _, _, t => trivial
  | (n, v) :: r, d, h, t => by
    simp only [readTm] at h
    split at h
    · rename_i e1 e2
      cases h
      simp only [buildTm, getT]
      cases hb : Nat.beq n t with
      | true =>
        have := Nat.eq_of_beq_eq_true hb
        subst this
        rw [← hm] at e1
        exact readV_ok hc e1 (ht n)
      | false => exact readTm_ok hc hm ht e2 t
    · cases h
theorem buildMem_len : ∀ {l : List PB} {d : PMem l}, (buildMem l d).length = l.length
  | [], _ => rfl
  | _ :: r, d => by simp [buildMem, buildMem_len]
theorem readMem_get {mem : Mem} {len : Nat} : ∀ {l : List PB} {zs : List Blk} {d : PMem l}, readMem mem len l zs = some d → ∀ b, b < l.length → ∃ (p : PB) (z : Blk) (x : p.D), zs[b]? = some z ∧ readB mem len p z = some x ∧ (buildMem l d)[b]? = some (buildB p x)
  | [], _, _, _, b, hb => by simp at hb
  | p :: r, [], _, h, b, hb => by simp [readMem] at h
  | p :: r, z :: zs, d, h, b, hb => by
    simp only [readMem] at h
    split at h
    · rename_i x xs e1 e2
      cases h
      cases b with
      | zero => exact ⟨p, z, x, rfl, e1, rfl⟩
      | succ b =>
        obtain ⟨p', z', x', h1, h2, h3⟩ := readMem_get e2 b (by simpa using hb)
        exact ⟨p', z', x', h1, h2, h3⟩
    · cases h
theorem readB_rel {mem : Mem} {len : Nat} {p : PB} {z : Blk} {x : p.D} (h : readB mem len p z = some x) : RelB z (buildB p x) := by
  unfold readB at h
  split at h
  · trivial
  · exact ⟨_, rfl⟩
  · have := cast_same h; simp only [Sigma.mk.injEq] at this; obtain ⟨rfl, h2⟩ := this; cases h2; rfl
  · have := cast_same h; simp only [Sigma.mk.injEq] at this; obtain ⟨rfl, h2⟩ := this; cases h2; rfl
  · have := cast_same h; simp only [Sigma.mk.injEq] at this; obtain ⟨rfl, h2⟩ := this; cases h2; rfl
  · cases h
theorem readPat_ok {base : Base} {S0 : Nat → Prop} {s : St} {a : Act} (ho : Ok base S0 σ) (hr : RelT σ s a) {p : Pat} {x : p.D} (h : readPat p s = some x) :
    ∃ σ' : Sit, σ'.w = σ.w ∧ σ'.S = σ.S ∧ Ok base S0 σ' ∧ RelT σ' (buildPat p x) a := by
  unfold readPat at h
  obtain ⟨hb, h⟩ := cond_some h
  simp only [Bool.and_eq_true] at hb
  split at h
  · rename_i x1 x2 e1 e2
    cases h
    let σ' : Sit := { σ with mem := buildMem p.mem x2 }
    have hlen : σ'.mem.length = p.mem.length := buildMem_len
    have hat : ∀ b, b < p.mem.length → ∃ (q : PB) (x : q.D), readB σ.mem σ'.mem.length q (blkAt σ.mem b) = some x ∧ blkAt σ'.mem b = buildB q x := fun b hb => by
      obtain ⟨q, z, x, h1, h2, h3⟩ := readMem_get e2 b hb
      refine ⟨q, x, ?_, ?_⟩
      · rw [hr.mem, hlen]; unfold blkAt; rw [h1]; exact h2
      · unfold blkAt; rw [h3]; rfl
    have hout : ∀ b, ¬ b < p.mem.length → blkAt σ'.mem b = .gone := fun b hb => blkAt_ge (by rw [hlen]; omega)
    have hc : Cut σ σ' := ⟨rfl, rfl, rfl, fun b => by
      by_cases hb : b < p.mem.length
      · obtain ⟨q, x, h1, h2⟩ := hat b hb
        rw [h2]; exact readB_rel h1
      · rw [hout b hb]; trivial⟩
    have howned : ∀ b r, σ'.owned b r → σ.owned b r := fun b r h => by
      obtain ⟨h1, h2⟩ := h
      refine ⟨?_, h2⟩
      have hrel := hc.rel b
      unfold RelB at hrel
      cases e : blkAt σ'.mem b with
      | gone => rw [e] at h1; exact h1.elim
      | raw cs => rw [e] at hrel; obtain ⟨cs', h⟩ := hrel; rw [h]; trivial
      | arr τ xs => rw [e] at hrel; rw [hrel]; trivial
      | acc τ xs => rw [e] at hrel; rw [hrel]; trivial
      | froz τ xs => rw [e] at h1; exact h1.elim
    refine ⟨σ', rfl, rfl, ⟨ho.below, ho.stab0, ho.stab, fun b => ?_, fun b r h => ho.own b r (howned b r h), fun b b' r h h' => ho.inj b b' r (howned b r h) (howned b' r h')⟩, ?_⟩
    · have hent := ho.ent b
      unfold MemAt at hent ⊢
      have hrel := hc.rel b
      unfold RelB at hrel
      cases e : blkAt σ'.mem b with
      | gone => trivial
      | froz τ xs => trivial
      | arr τ xs => rw [e] at hrel; rw [hrel] at hent; exact hent
      | acc τ xs => rw [e] at hrel; rw [hrel] at hent; exact hent
      | raw cs =>
        have hb : b < p.mem.length := Classical.byContradiction fun hb => by rw [hout b hb] at e; cases e
        obtain ⟨q, x, h1, h2⟩ := hat b hb
        rw [e] at h2
        rw [e] at hrel
        obtain ⟨cs', hcs⟩ := hrel
        rw [hcs] at hent h1
        obtain ⟨r, vs, T, g1, g2, g3⟩ := hent
        cases q with
        | raw l =>
          simp only [readB] at h1
          simp only [buildB, Blk.raw.injEq] at h2
          subst h2
          exact ⟨r, vs, T, g1, g2, readCs_ok hc h1 g3⟩
        | gone => simp [buildB] at h2
        | arr τ => simp [buildB] at h2
        | acc τ => simp [buildB] at h2
        | froz τ => simp [buildB] at h2
    · refine ⟨?_, hr.defers, rfl, fun t => ?_, fun d g q y hm => by simp [buildPat] at hm⟩
      · rw [hr.size]; exact Nat.eq_of_beq_eq_true hb.1
      · rw [← hlen] at e1
        exact readTm_ok hc hr.mem hr.tm e1 t
  · cases h
theorem readPat_m0 {p : Pat} {s : St} {x : p.D} (h : readPat p s = some x) : s.m0 = 0 := by
  unfold readPat at h
  have := (cond_some h).1
  simp only [Bool.and_eq_true] at this
  exact Nat.eq_of_beq_eq_true this.2
theorem accUp_ok {base : Base} {S0 : Nat → Prop} {a : Act} : ∀ (l : List (Nat × Shape)) {σ : Sit} {s : St}, Ok base S0 σ → RelT σ s a → s.cs = [] → ∃ σ' : Sit, σ'.w = σ.w ∧ Ok base S0 σ' ∧ Goes σ σ' ∧ RelT σ' (accUp l s) a ∧ (accUp l s).m0 = s.m0
  | [], σ, s, ho, hr, _ => ⟨σ, rfl, ho, Goes.refl σ, hr, rfl⟩
  | (t, τ) :: r, σ, s, ho, hr, hcs => by
    simp only [accUp]
    split
    · rename_i e
      have hg := name_goes σ (.acc τ [])
      have hr' : RelT (σ.name (.acc τ [])) { s with tm := (t, .val (.one (.own s.mem.length))) :: s.tm, mem := s.mem ++ [.acc τ []] } a := by
        refine ⟨hr.size, hr.defers, by simp [Sit.name, hr.mem], fun t' => ?_, fun d g p x hm => by rw [hcs] at hm; simp at hm⟩
        simp only [getT]
        cases hb : Nat.beq t t' with
        | false => exact hg.repT (hr.tm t')
        | true =>
          have := Nat.eq_of_beq_eq_true hb
          subst this
          have h1 := hr.tm t
          rw [e] at h1
          obtain ⟨h1, _⟩ := h1
          rw [h1]
          refine ⟨by simp [Sit.name, hr.mem], trivial, ?_⟩
          rw [← hr.mem]
          simp only [Sit.name, blkAt_append_at]
          simp [upd]
      obtain ⟨σ', h1, h2, h3, h4, h5⟩ := accUp_ok r (name_ok ho τ) hr' hcs
      exact ⟨σ', h1, h2, hg.trans h3, h4, h5⟩
    · exact accUp_ok r ho hr hcs
/-- behind a cut where nobody else's names are about, all goes on -/
theorem adv_cut {σ0 σ σ' : Sit} (hA : Adv σ0 σ) (h0 : σ0.mem.length = 0) (hw : σ'.w = σ.w) (hS : σ'.S = σ.S) : Adv σ0 σ' := by
  have hnil : σ0.mem = [] := List.eq_nil_of_length_eq_zero h0
  refine ⟨fun r hr => by rw [hS]; exact hA.stab r hr, fun r hr => by rw [hw]; exact hA.heap r hr, fun c y hc => ?_, by omega, fun b hb => by omega⟩
  have stab := hA.stab
  have heap := hA.heap
  rw [← hw] at heap
  rw [← hS] at stab
  have hna : ∀ b, c ≠ .own b := fun b e => by subst e; have := hc.1; omega
  rw [dropAcc_other hna]
  cases c with
  | undef => exact hc
  | v x => exact hc
  | fl k o => exact hc
  | sl τ xs => exact DRep.mono stab heap hc
  | own b => exact absurd rfl (hna b)
  | ptr b off => have := hc.1; omega
  | eptr b i off => have := hc.1; omega
  | iptr τ x off =>
    obtain ⟨r, o, vs, T, fz, ds, h1, h2, h3, h4, h5⟩ := hc
    exact ⟨r, o, vs, T, fz, ds, h1, stab r h2, (heap r h2).trans h3, h4.mono stab heap, h5⟩
  | gptr g => exact hc
  | fnv o => exact DRep.mono stab heap hc
  | fn f caps =>
    obtain ⟨h1, h2, h3⟩ := hc
    cases caps with
    | cons p r => have := h1 p (by simp); omega
    | nil =>
      refine ⟨by simp, h2, ?_⟩
      rcases h3 with ⟨p, hp, _⟩ | ⟨rs, g1, g2⟩
      · simp at hp
      · exact .inr ⟨rs, by simpa using g1, g2⟩
end Vx
namespace Vx
open Go Go.RowKit
/-- what is known of the loops -/
def LoopOk (C : Cfg) (d : Nat) (fid : FuncId) (body : Code) (sp : LoopSpec) : Prop :=
  ∀ (R : Type) (ke : Nat → St → Option R) (kr : St → Option R) (r : R) (x : sp.pat.D), sp.run x ke kr = some r → ∃ n, iter (lBody C d fid body sp ke kr) n x = some r
def LoopsOk (C : Cfg) : Prop :=
  ∀ fid k sp, C.loop fid k = some sp → ∀ fn whole, C.P.funcs[fid]? = some fn → fn.body = some whole → ∀ body ∈ loopsOf whole, keyOf body = k → ∀ d, LoopOk C (d + 2) fid body sp
variable {C : Cfg} {base : Base} {S0 : Nat → Prop} {R : Type} {r : R}
/-- the rounds of a loop -/
theorem rounds_ok {d : Nat} {fid : FuncId} {body : Code} {sp : LoopSpec} {σ0 : Sit} (h0 : σ0.mem.length = 0) {kn : St → Option R} {ke : Nat → St → Option R} {kr : St → Option R}
    (hbody : ∀ (σ : Sit) (s : St) (a : Act) (kn' : St → Option R) (ke' : Nat → St → Option R) (kr' : St → Option R), Ok base S0 σ → Adv σ0 σ → RelT σ s a → s.m0 = σ0.mem.length →
      exec C (inlRun C d) true fid body s kn' ke' kr' = some r → body.wp C.P (Post base S0 σ0 r kn' ke' kr') a σ.w) :
    ∀ (n : Nat) (x : sp.pat.D) (σ : Sit) (a : Act), Ok base S0 σ → Adv σ0 σ → RelT σ (buildPat sp.pat x) a → iter (lBody C d fid body sp ke kr) n x = some r → Code.rounds C.P body (Post base S0 σ0 r kn ke kr) n a σ.w
  | 0, _, _, _, _, _, _, h => by simp [iter] at h
  | n + 1, x, σ, a, ho, hA, hr, h => by
    simp only [iter] at h
    unfold lBody at h
    have := hbody σ _ a _ _ _ ho hA hr (by rw [h0]; rfl) h
    rw [rounds_succ]
    refine wp_mono this fun e a' w' hp => ?_
    obtain ⟨σ', s', rfl, k2, k3, k4, k5, k6⟩ := hp
    cases e with
    | normal =>
      simp only at k6
      split at k6
      · rename_i y ey
        obtain ⟨σ1, g1, g2, g3, g4, g5⟩ := accUp_ok sp.accs k2 k4.clear rfl
        obtain ⟨σ2, q1, q2, q3, q4⟩ := readPat_ok g2 g4 ey
        have hA2 : Adv σ0 σ2 := adv_cut (k3.trans g3.adv) h0 q1 q2
        have := rounds_ok (kn := kn) h0 hbody n y σ2 a' q3 hA2 q4 k6
        rw [q1, g1] at this
        exact this
      · cases k6
    | exit id =>
      simp only at k6
      unfold outE at k6
      split at k6
      · split at k6
        · rename_i y ey
          obtain ⟨σ2, q1, q2, q3, q4⟩ := readPat_ok k2 k4 ey
          exact ⟨σ2, _, q1, q3, adv_cut k3 h0 q1 q2, q4, by rw [h0]; rfl, k6⟩
        · cases k6
      · cases k6
    | ret =>
      simp only at k6
      unfold outR at k6
      split at k6
      · split at k6
        · rename_i y ey
          obtain ⟨σ2, q1, q2, q3, q4⟩ := readPat_ok k2 k4 ey
          exact ⟨σ2, _, q1, q3, adv_cut k3 h0 q1 q2, q4, by rw [h0]; rfl, k6⟩
        · cases k6
      · cases k6
    | _ => exact k6.elim
/-- a piece of code does what exec says -/
theorem exec_ok (hP : ProgOk C) (hL : LoopsOk C) {inl : FuncId → List SV → Mem → (List SV → Mem → Option R) → Option R} (hI : InlOk C inl) {lp : Bool} (hlp : lp = true → ∃ d, inl = inlRun C (d + 2))
    {σ0 : Sit} (hG0 : GlobsOk C.globs σ0.w σ0.S) {fid : FuncId} {fn : Func} {whole : Code} (hf : C.P.funcs[fid]? = some fn) (hb : fn.body = some whole) :
    ∀ (c : Code), (∀ b ∈ loopsOf c, b ∈ loopsOf whole) → ∀ (σ : Sit) (s : St) (a : Act) (kn : St → Option R) (ke : Nat → St → Option R) (kr : St → Option R), Ok base S0 σ → Adv σ0 σ → RelT σ s a → s.m0 = σ0.mem.length →
      exec C inl lp fid c s kn ke kr = some r → c.wp C.P (Post base S0 σ0 r kn ke kr) a σ.w
  | .skip, _, σ, s, a, kn, ke, kr, ho, hA, hr, hm, h => wp_skip ⟨σ, s, rfl, ho, hA, hr, hm, h⟩
  | .exit id, _, σ, s, a, kn, ke, kr, ho, hA, hr, hm, h => wp_exit ⟨σ, s, rfl, ho, hA, hr, hm, h⟩
  | .ret, _, σ, s, a, kn, ke, kr, ho, hA, hr, hm, h => wp_ret ⟨σ, s, rfl, ho, hA, hr, hm, h⟩
  | .region id ops false, _, σ, s, a, kn, ke, kr, ho, hA, hr, hm, h => by
    simp only [exec] at h
    refine wp_mono (wp_region_list (runOps_ok hP hI ops (ke := ke) (kr := kr) hG0 ops.toList ho hA hr.clear hm h)) fun e a' w' hp => ?_
    obtain ⟨σ', s', k1, k2, k3, k4, k5, k6⟩ := hp
    cases e with
    | normal => exact ⟨σ', { s' with cs := [] }, k1, k2, k3, k4.clear, k5, k6⟩
    | exit id => exact ⟨σ', s', k1, k2, k3, k4, k5, k6⟩
    | ret => exact ⟨σ', s', k1, k2, k3, k4, k5, k6⟩
    | _ => exact k6.elim
  | .region id ops true, _, σ, s, a, kn, ke, kr, ho, hA, hr, hm, h => by
    simp only [exec] at h
    split at h
    · rename_i fps gs s' he
      obtain ⟨hd, h⟩ := cond_some h
      simp only [Bool.and_eq_true] at hd
      obtain ⟨hgs, h⟩ := chk_some h
      refine wp_mono (draw_ok6 hP (by have := headLen_le ops.toList; simpa using this) hd.1 hd.2 he hgs rfl ho hr.clear (hG0.adv hA) fun σ' a' k1 k2 k3 k4 =>
        runOps_ok hP hI ops (kn := fun s'' => kn { s'' with cs := [] }) (ke := ke) (kr := kr) hG0 _ k1 (hA.trans k2) k3.clear (k4.trans hm) h) fun e a' w' hp => ?_
      obtain ⟨σ', s', k1, k2, k3, k4, k5, k6⟩ := hp
      cases e with
      | normal => exact ⟨σ', { s' with cs := [] }, k1, k2, k3, k4.clear, k5, k6⟩
      | exit id => exact ⟨σ', s', k1, k2, k3, k4, k5, k6⟩
      | ret => exact ⟨σ', s', k1, k2, k3, k4, k5, k6⟩
      | _ => exact k6.elim
    · cases h
  | .seq c1 c2, hl, σ, s, a, kn, ke, kr, ho, hA, hr, hm, h => by
    simp only [exec] at h
    refine wp_seq (wp_mono (exec_ok hP hL hI hlp hG0 hf hb c1 (fun b hb' => hl b (by simp [loopsOf, hb'])) σ s a _ ke kr ho hA hr hm h) fun e a' w' hp => ?_)
    cases e with
    | normal =>
      obtain ⟨σ', s', rfl, k2, k3, k4, k5, k6⟩ := hp
      exact exec_ok hP hL hI hlp hG0 hf hb c2 (fun b hb' => hl b (by simp [loopsOf, hb'])) σ' s' a' kn ke kr k2 k3 k4 k5 k6
    | exit id => exact hp
    | ret => exact hp
    | goto l => exact hp
    | panic ch => exact hp
    | outgrown => exact hp
  | .cond c c1 c2, hl, σ, s, a, kn, ke, kr, ho, hA, hr, hm, h => by
    simp only [exec] at h
    split at h
    · rename_i t et
      obtain ⟨hv, _⟩ := ev1_ok hr (fun _ _ h => by simp at h) et
      refine wp_cond (t := t) hv ?_
      cases t with
      | true => exact exec_ok hP hL hI hlp hG0 hf hb c1 (fun b hb' => hl b (by simp [loopsOf, hb'])) σ s a kn ke kr ho hA hr hm h
      | false => exact exec_ok hP hL hI hlp hG0 hf hb c2 (fun b hb' => hl b (by simp [loopsOf, hb'])) σ s a kn ke kr ho hA hr hm h
    · cases h
  | .block id c, hl, σ, s, a, kn, ke, kr, ho, hA, hr, hm, h => by
    simp only [exec] at h
    refine wp_block (wp_mono (exec_ok hP hL hI hlp hG0 hf hb c (fun b hb' => hl b (by simp [loopsOf, hb'])) σ s a kn _ kr ho hA hr hm h) fun e a' w' hp => ?_)
    cases e with
    | normal => exact hp
    | exit id' =>
      obtain ⟨σ', s', k1, k2, k3, k4, k5, k6⟩ := hp
      simp only at k6
      simp only [Exit.inBlock]
      by_cases hid : id' = id
      · subst hid
        rw [if_pos rfl]
        rw [Nat.beq_refl] at k6
        exact ⟨σ', s', k1, k2, k3, k4, k5, k6⟩
      · rw [if_neg hid]
        have : Nat.beq id' id = false := by
          cases hq : Nat.beq id' id with
          | false => rfl
          | true => exact absurd (Nat.eq_of_beq_eq_true hq) hid
        rw [this] at k6
        exact ⟨σ', s', k1, k2, k3, k4, k5, k6⟩
    | ret => exact hp
    | goto l => exact hp
    | panic ch => exact hp
    | outgrown => exact hp
  | .loop c, hl, σ, s, a, kn, ke, kr, ho, hA, hr, hm, h => by
    simp only [exec] at h
    split at h
    · cases h
    · rename_i sp esp
      obtain ⟨hlpt, h1⟩ := cond_some h
      clear h
      split at h1
      · rename_i x ex
        obtain ⟨d, rfl⟩ := hlp hlpt
        subst hlpt
        obtain ⟨n, hn⟩ := hL fid _ sp esp fn whole hf hb c (hl c (by simp [loopsOf])) rfl d R ke kr r x h1
        obtain ⟨σ1, g1, g2, g3, g4, g5⟩ := accUp_ok sp.accs ho hr.clear rfl
        have h0 : σ0.mem.length = 0 := by rw [← hm]; exact g5.symm.trans (readPat_m0 ex)
        obtain ⟨σ2, q1, q2, q3, q4⟩ := readPat_ok g2 g4 ex
        have hA2 : Adv σ0 σ2 := adv_cut (hA.trans g3.adv) h0 q1 q2
        have := rounds_ok (kn := kn) h0 (fun σ s a kn' ke' kr' => exec_ok hP hL hI hlp hG0 hf hb c (fun b hb' => hl b (by simp [loopsOf, hb'])) σ s a kn' ke' kr') n x σ2 a q3 hA2 q4 hn
        rw [q1, g1] at this
        exact wp_loop_rounds n this
      · cases h1
  | .goto _, _, _, _, _, _, _, _, _, _, _, _, h => by simp [exec] at h
  | .label _, _, _, _, _, _, _, _, _, _, _, _, h => by simp [exec] at h
  | .rangeFunc _ _ _ _, _, _, _, _, _, _, _, _, _, _, _, h => by simp [exec] at h
end Vx
namespace Vx
open Go Go.RowKit
variable {C : Cfg} {base : Base} {S0 : Nat → Prop} {R : Type} {r : R} {σ : Sit} {s : St} {a : Act}
theorem loadVar_of {P : Program} {T : TypeId} {p : Addr} {w : World} {v : Value} (h : (Instr.loadAt T (.pointer (some p))).run P w = .ok v w) : (loadVar T p).run P w = .ok v w := by
  unfold Instr.loadAt at h
  simpa [Instr.sureAddr] using h
def resVar (tmps : Array Value) (v : ResultVar) : Sem Value :=
  match v with
  | .tmp t => pure (tmps.getD t undef)
  | .cell c T => do loadVar T (← asAddr (tmps.getD c undef))
theorem readRes_ok {P : Program} (ho : Ok base S0 σ) (hr : RelT σ s a) : ∀ {l : List ResultVar} {rs : List SV}, readRes P s l = some rs →
    ∃ zs, (l.mapM (resVar a.tmps)).run P σ.w = .ok zs σ.w ∧ All2 (RepV σ) rs zs
  | [], rs, h => by
    simp only [readRes] at h; cases h
    exact ⟨[], by simp, .nil⟩
  | .tmp t :: l, rs, h => by
    simp only [readRes] at h
    split at h
    · rename_i x rs' e1 e2
      cases h
      obtain ⟨zs, h1, h2⟩ := readRes_ok ho hr e2
      have ht := hr.tm t
      rw [e1] at ht
      exact ⟨_ :: zs, by simp [resVar, h1], .cons ht h2⟩
    · cases h
  | .cell c T :: l, rs, h => by
    simp only [readRes] at h
    split at h
    · rename_i z rs' e1 e2
      obtain ⟨zs, h1, h2⟩ := readRes_ok ho hr e2
      have ht := hr.tm c
      rw [e1] at ht
      have ptr : ∀ {cs off}, cellsAt σ.mem z = some (cs, off) → ∃ p, a.tmps.getD c undef = .pointer (some p) := fun hc => by
        obtain ⟨r, o, vs, T', fz, ds, hy, _⟩ := cellsAt_ok ho ht hc
        exact ⟨_, hy⟩
      rw [← hr.mem] at h
      split at h
      · rename_i cs off hc hT
        split at h
        · rename_i x hx
          cases h
          obtain ⟨p, hp⟩ := ptr hc
          obtain ⟨v, hv, hR⟩ := load_agg (cellsAt_ok ho ht hc) hT hx
          rw [hp] at hv
          exact ⟨v :: zs, by simp [resVar, hp, asAddr, loadVar_of hv, h1], .cons hR h2⟩
        · cases h
      · rename_i cs off hc hT
        split at h
        · rename_i x hx
          cases h
          obtain ⟨p, hp⟩ := ptr hc
          obtain ⟨v, hv, hR⟩ := load_one (cellsAt_ok ho ht hc) hT (by assumption)
          rw [hp] at hv
          exact ⟨v :: zs, by simp [resVar, hp, asAddr, loadVar_of hv, h1], .cons hR h2⟩
        · cases h
      · cases h
    · cases h
theorem results_ok {P : Program} {fn : Func} (ho : Ok base S0 σ) (hr : RelT σ s a) {rs : List SV} (h : readRes P s fn.results.toList = some rs) :
    ∃ zs, (results fn a.tmps).run P σ.w = .ok (resOf zs) σ.w ∧ All2 (RepV σ) rs zs := by
  obtain ⟨zs, h1, h2⟩ := readRes_ok ho hr h
  refine ⟨zs, ?_, h2⟩
  have he : results fn a.tmps = (do
      let vs ← fn.results.mapM (resVar a.tmps)
      pure (if h : vs.size = 1 then vs[0] else .tuple vs)) := rfl
  rw [he, Array.mapM_eq_mapM_toList]
  simp only [bind_map_left, Sem.run_bind, h1, Result.andThen_ok, Sem.run_pure]
  congr 1
  unfold resOf
  split
  · rename_i hs
    simp at hs
    match zs, hs with
    | [y], _ => rfl
  · rename_i hs
    split
    · simp at hs
    · rfl
theorem argT_get : ∀ {l : List SV} {n t : Nat}, getT (argT n l) t = (match l[t - n]? with | some x => if n ≤ t then .val x else .un | none => .un)
  | [], n, t => by simp [argT, getT]
  | x :: l, n, t => by
    simp only [argT, getT]
    cases hb : Nat.beq n t with
    | true => have := Nat.eq_of_beq_eq_true hb; subst this; simp
    | false =>
      have hne : n ≠ t := fun e => by subst e; simp [Nat.beq_refl] at hb
      simp only [cond_false]
      rw [argT_get]
      rcases Nat.lt_or_ge n t with hlt | hge
      · have : t - n = (t - (n + 1)) + 1 := by omega
        rw [this, List.getElem?_cons_succ]
        have h1 : n + 1 ≤ t := hlt
        have h2 : n ≤ t := by omega
        simp only [h1, h2, if_true]
      · have h0 : t - n = 0 := by omega
        have h1 : ¬ n + 1 ≤ t := by omega
        have h2 : ¬ n ≤ t := by omega
        rw [h0, List.getElem?_cons_zero]
        simp only [h1, h2, if_false]
        split <;> rfl
/-- the frame at a call's beginning -/
theorem start_rel {args : List SV} {ys : List Value} {n m0 : Nat} (ha : All2 (RepV σ) args ys) (hn : args.length ≤ n) :
    RelT σ { n := n, m0 := m0, tm := argT 0 args, mem := σ.mem, cs := [] } { tmps := ys.toArray ++ Array.replicate (n - ys.toArray.size) undef, defers := [] } := by
  have hlen := ha.length
  refine ⟨by simp; omega, rfl, rfl, fun t => ?_, fun d g p x hm => by simp at hm⟩
  rw [argT_get]
  simp only [Nat.sub_zero]
  cases hx : args[t]? with
  | none => trivial
  | some x =>
    obtain ⟨y, hy, hxy⟩ := ha.get hx
    simp only [Nat.zero_le, if_true]
    have : (ys.toArray ++ Array.replicate (n - ys.toArray.size) undef).getD t undef = y := by
      have hlt : t < ys.length := (List.getElem?_eq_some_iff.1 hy).1
      rw [Array.getD_eq_getD_getElem?, Array.getElem?_append_left (by simpa using hlt)]
      simp [hy]
    rw [this]
    exact hxy
/-- a function's body -/
theorem bodyRun_ok (hP : ProgOk C) (hL : LoopsOk C) {inl : FuncId → List SV → Mem → (List SV → Mem → Option R) → Option R} (hI : InlOk C inl) {lp : Bool} (hlp : lp = true → ∃ d, inl = inlRun C (d + 2))
    {f : FuncId} {fn : Func} (hf : C.P.funcs[f]? = some fn) {m0 : Nat} {args : List SV} {mem : Mem} {k : List SV → Mem → Option R} (h : bodyRun C inl lp f fn m0 args mem k = some r) {ys : List Value}
    {σ0 : Sit} (h0 : m0 = σ0.mem.length) (hA : Adv σ0 σ) (ho : Ok base S0 σ) (hm : σ.mem = mem) (hG : GlobsOk C.globs σ0.w σ0.S) (ha : All2 (RepV σ) args ys) :
    (∃ fn, C.P.funcs[f]? = some fn ∧ fn.body.isNone = false ∧ (fn.name == "runtime.NumGoroutine") = false) ∧
    Calls C.P f ys.toArray σ.w fun e w' => ∃ (σ' : Sit) (rs : List SV) (zs : List Value), e = .returned (resOf zs) ∧ σ'.w = w' ∧ Ok base S0 σ' ∧ Adv σ0 σ' ∧ All2 (RepV σ') rs zs ∧ k rs σ'.mem = some r := by
  unfold bodyRun at h
  split at h
  · rename_i c hc
    obtain ⟨hb, h⟩ := cond_some h
    simp only [Bool.and_eq_true, Bool.not_eq_true'] at hb
    subst hm
    refine ⟨⟨fn, hf, by simp [hc], hb.2⟩, ?_⟩
    refine calls_of_wp hf hc (wp_mono (exec_ok hP hL hI hlp hG hf hc c (fun _ h => h) σ _ _ _ _ _ ho hA (start_rel ha (by simpa using hb.1)) h0 h) fun e a' w' hp => ?_)
    obtain ⟨σ', s', rfl, k2, k3, k4, k5, k6⟩ := hp
    have hfin : fin C.P fn k s' = some r → a'.defers = [] ∧ ∃ v, (results fn a'.tmps).run C.P σ'.w = .ok v σ'.w ∧
        ∃ (σ'' : Sit) (rs : List SV) (zs : List Value), Ending.returned v = .returned (resOf zs) ∧ σ''.w = σ'.w ∧ Ok base S0 σ'' ∧ Adv σ0 σ'' ∧ All2 (RepV σ'') rs zs ∧ k rs σ''.mem = some r := fun h => by
      unfold fin at h
      split at h
      · rename_i rs ers
        obtain ⟨zs, h1, h2⟩ := results_ok k2 k4 ers
        exact ⟨k4.defers, _, h1, σ', rs, zs, rfl, rfl, k2, k3, h2, by rw [k4.mem]; exact h⟩
      · cases h
    cases e with
    | normal => exact hfin k6
    | ret => exact hfin k6
    | exit id => cases k6
    | _ => exact k6.elim
  · cases h
theorem inlRun_ok (hP : ProgOk C) (hL : LoopsOk C) : ∀ d, InlOk C (inlRun (R := R) C d)
  | 0, f, args, mem, k, r, h => by simp [inlRun] at h
  | d + 1, f, args, mem, k, r, h => by
    intro base S0 σ ys ho hm hG ha
    simp only [inlRun] at h
    split at h
    · rename_i fn hf
      obtain ⟨_, h⟩ := cond_some h
      subst hm
      refine bodyRun_ok hP hL (inlRun_ok hP hL d) (fun hl => ?_) hf h rfl (Adv.refl σ) ho rfl hG ha
      have : 2 ≤ d := by simpa using hl
      exact ⟨d - 2, by rw [show d - 2 + 2 = d by omega]⟩
    · cases h
/-- the situation before a call on plain data -/
theorem start_ok {w : World} {St : Nat → Prop} (M : Nat → Prop) (h : ∀ q, St q → q < w.heap.size) : Ok ⟨w, M⟩ St { E := ⟨fun _ => none, fun _ => 0⟩, mem := [], w := w, S := St } :=
  ⟨⟨rfl, rfl, rfl, Nat.le_refl _, fun _ _ _ => rfl⟩, fun _ h => h, fun r hr => ⟨h r hr, .inl hr⟩, fun b => by unfold MemAt; simp [blkAt], fun b r hb => by obtain ⟨h1, _⟩ := hb; simp [blkAt, ownedB] at h1, fun b b' r hb => by obtain ⟨h1, _⟩ := hb; simp [blkAt, ownedB] at h1⟩
theorem run_calls (hP : ProgOk C) (hL : LoopsOk C) {d : Nat} {f : FuncId} {fn : Func} (hf : C.P.funcs[f]? = some fn) {I O : Sig} {x : DenS I} {y : DenS O} (h : run C d f fn I O x = some y)
    {w : World} {St : Nat → Prop} {ys : List Value} {rs : List Nat} (hSt : ∀ q, St q → q < w.heap.size) (hG : GlobsOk C.globs w St) (hx : SRep w St I x ys rs) (hn : rs.Nodup) (hr : ∀ r ∈ rs, ¬ St r ∧ r < w.heap.size) :
    Calls C.P f ys.toArray w fun e w' => ∃ zs rs', e = .returned (resOf zs) ∧ Low ⟨w, fun r => r ∈ rs⟩ w' ∧ (∀ r ∈ rs', Base.new ⟨w, fun r => r ∈ rs⟩ r ∧ r < w'.heap.size) ∧ rs'.Nodup ∧
      SRep w' (fun q => (St q ∨ (Base.new ⟨w, fun r => r ∈ rs⟩ q ∧ q < w'.heap.size)) ∧ q ∉ rs') O y zs rs' := by
  unfold run at h
  split at h
  · rename_i args m0 ea
    have hok := start_ok (w := w) (fun r => r ∈ rs) hSt
    obtain ⟨σ1, c1, c2, c3, c4, c5, c6⟩ := giveS_ok (σ := { E := ⟨fun _ => none, fun _ => 0⟩, mem := [], w := w, S := St }) hok hx hn (fun r h => ⟨.inr h, (hr r h).2, (hr r h).1, fun b hb => by obtain ⟨h1, _⟩ := hb; simp [blkAt, ownedB] at h1⟩) ea
    obtain ⟨_, hc⟩ := bodyRun_ok hP hL (inlRun_ok hP hL d) (lp := Nat.ble 2 d) (fun hl => by
      have : 2 ≤ d := by simpa using hl
      exact ⟨d - 2, by rw [show d - 2 + 2 = d by omega]⟩) hf h (σ0 := { E := ⟨fun _ => none, fun _ => 0⟩, mem := [], w := w, S := St }) rfl c5.adv c4 c1 hG c6
    rw [c2] at hc
    refine hc.mono fun e w' he => ?_
    obtain ⟨σ', rs0, zs, rfl, rfl, k1, k2, k3, k4⟩ := he
    cases hz : frzS σ'.mem O rs0 with
    | mk rs1 m1 =>
      rw [hz] at k4
      simp only at k4
      obtain ⟨σ2, a1, a2, a3, a4, a5, a6⟩ := frzS_ok k1 hz
      split at k4
      · rename_i y' m2 ey
        cases k4
        rw [← a1] at ey
        obtain ⟨σ3, rs', b1, b2, b3, b4, b5, b6, b7, b8, b9, b10⟩ := takeS_ok a4 (a6 _ k3) ey
        have hown : ∀ r ∈ rs', Base.new ⟨w, fun r => r ∈ rs⟩ r ∧ r < σ'.w.heap.size ∧ ¬ σ2.S r := fun r hr => by
          obtain ⟨⟨b, hb⟩, _⟩ := b9 r hr
          have := a4.own b r hb
          rw [a2] at this
          exact this
        refine ⟨zs, rs', rfl, k1.below, fun r hr => ⟨(hown r hr).1, (hown r hr).2.1⟩, b8, ?_⟩
        rw [a2] at b7
        refine b7.mono (fun q hq => ?_) (fun _ _ => rfl) (fun _ _ => rfl)
        have hq' := a4.stab q hq
        rw [a2] at hq'
        refine ⟨?_, fun h => (hown q h).2.2 hq⟩
        rcases hq'.2 with h | h
        · exact .inl h
        · exact .inr ⟨h, hq'.1⟩
      · cases k4
  · cases h
/-- what is computed is what is called -/
theorem sound_of (hP : ProgOk C) (hL : LoopsOk C) (d : Nat) (f : FuncId) (fn : Func) (hf : C.P.funcs[f]? = some fn) (hb : fn.body.isNone = false) (hn : (fn.name == "runtime.NumGoroutine") = false) (S : Sum)
    (h : ∀ x, S.pre x = true → run C d f fn S.ins S.outs x = some (S.F x)) : Sound C.P C.globs f S :=
  ⟨fun x hx0 _ _ _ _ hSt hG hx hnd hr => .inl ⟨⟨fn, hf, hb, hn⟩, run_calls hP hL hf (h x hx0) hSt hG hx hnd hr⟩⟩
end Vx
namespace Vx
open Go Go.RowKit
/-- the data at a loop's exits -/
@[reducible] def OutT : List (Nat × Pat) → Option Pat → Type
  | [], none => Empty
  | [], some p => p.D
  | (_, p) :: r, o => p.D ⊕ OutT r o
@[reducible] def obind2 {A A' R : Type} (o : A ⊕ A') (f : A → Option R) (g : A' → Option R) : Option R := match o with
  | .inl y => f y
  | .inr y => g y
def outK {R : Type} : (l : List (Nat × Pat)) → (o : Option Pat) → (Nat → St → Option R) → (St → Option R) → OutT l o → Option R
  | [], none, _, _ => fun _ => none
  | [], some p, _, kr => fun y => kr (buildPat p y)
  | (i, p) :: r, o, ke, kr => fun z => obind2 z (fun y => ke i (buildPat p y)) (fun z => outK r o ke kr z)
section
variable {D Y : Type} {Φ : {R : Type} → (D → Option R) → (Y → Option R) → D → Option R}
end
@[reducible] noncomputable def LoopSpec.of (pat : Pat) (accs : List (Nat × Shape)) (exits : List (Nat × Pat)) (ret : Option Pat) (runF : pat.D → Option (OutT exits ret)) : LoopSpec :=
  { pat, accs, exits, ret, run := fun x ke kr => match runF x with
      | some z => outK exits ret ke kr z
      | none => none }
/-- a function by what it computes -/
noncomputable def sumOf (I O : Sig) (t : DenS I → Option (DenS O)) (dflt : DenS O) : Sum := { ins := I, outs := O, pre := fun x => (t x).isSome, F := fun x => (t x).getD dflt }
theorem sumOf_sound {C : Cfg} (hP : ProgOk C) (hL : LoopsOk C) (d : Nat) (f : FuncId) (fn : Func) (hf : C.P.funcs[f]? = some fn) (hb : fn.body.isNone = false) (hn : (fn.name == "runtime.NumGoroutine") = false) (I O : Sig) (t : DenS I → Option (DenS O)) (dflt : DenS O)
    (h : ∀ x, run C d f fn I O x = t x) : Sound C.P C.globs f (sumOf I O t dflt) :=
  sound_of hP hL d f fn hf hb hn _ fun x hx => by
    refine (h x).trans ?_
    simp only [sumOf] at hx ⊢
    cases ht : t x with
    | none => rw [ht] at hx; cases hx
    | some y => rfl
def DenS.dflt : (S : Sig) → DenS S
  | [] => ()
  | (_, τ) :: r => (τ.dflt, DenS.dflt r)
/-- a loop's body by its name -/
def bodyOf (fn : Func) (k : Nat) : Code := match fn.body with
  | some c => ((loopsOf c).find? fun b => Nat.beq (keyOf b) k).getD .skip
  | none => .skip
def nodupN : List Nat → Bool
  | [] => true
  | n :: r => !(memB n r) && nodupN r
theorem find_key : ∀ {l : List Code}, nodupN (l.map keyOf) = true → ∀ {b : Code} {k : Nat}, b ∈ l → keyOf b = k → l.find? (fun b => Nat.beq (keyOf b) k) = some b
  | [], _, b, k, h, _ => by simp at h
  | c :: l, hn, b, k, hb, hk => by
    simp only [List.map_cons, nodupN, Bool.and_eq_true, Bool.not_eq_true'] at hn
    rw [List.find?_cons]
    rcases List.mem_cons.1 hb with rfl | hb
    · subst hk; simp [Nat.beq_refl]
    · have : Nat.beq (keyOf c) k = false := by
        cases hq : Nat.beq (keyOf c) k with
        | false => rfl
        | true =>
          have e := Nat.eq_of_beq_eq_true hq
          have : memB (keyOf c) (l.map keyOf) = true := memB_iff.2 (by rw [e, ← hk]; exact List.mem_map_of_mem hb)
          rw [this] at hn; cases hn.1
      rw [this]
      exact find_key hn.2 hb hk
theorem bodyOf_eq {fn : Func} {whole : Code} (hw : fn.body = some whole) (hn : nodupN ((loopsOf whole).map keyOf) = true) {b : Code} {k : Nat} (hb : b ∈ loopsOf whole) (hk : keyOf b = k) : b = bodyOf fn k := by
  unfold bodyOf
  rw [hw]
  simp only [find_key hn hb hk, Option.getD_some]
/-- the summaries of a configuration, one by one -/
def AllSound (P : Program) (G : List (Nat × Sigma fun τ => List (Den τ))) : List (FuncId × Sum) → Prop
  | [] => True
  | (f, S) :: r => Sound P G f S ∧ AllSound P G r
theorem sumsOk_of {P : Program} {G : List (Nat × Sigma fun τ => List (Den τ))} : ∀ {l : List (FuncId × Sum)}, AllSound P G l → ∀ f mem args S, findSum l f mem args = some S → Sound P G f S
  | [], _, f, mem, args, S, h => by simp [findSum] at h
  | (g, T) :: r, ha, f, mem, args, S, h => by
    simp only [findSum] at h
    cases hb : Nat.beq g f && fitA mem T.ins args with
    | true =>
      rw [hb] at h
      simp only [cond_true, Option.some.injEq] at h
      subst h
      simp only [Bool.and_eq_true] at hb
      have := Nat.eq_of_beq_eq_true hb.1
      subst this
      exact ha.1
    | false => rw [hb] at h; exact sumsOk_of ha.2 f mem args S h
def AllLoops (C : Cfg) (fid : FuncId) (fn : Func) : List (FuncId × Nat × LoopSpec) → Prop
  | [] => True
  | (f, k, sp) :: r => f = fid ∧ (∀ d, LoopOk C (d + 2) fid (bodyOf fn k) sp) ∧ AllLoops C fid fn r
theorem findLoop_of {C : Cfg} {fid : FuncId} {fn : Func} : ∀ {l : List (FuncId × Nat × LoopSpec)}, AllLoops C fid fn l → ∀ {f k sp}, findLoop l f k = some sp → f = fid ∧ ∀ d, LoopOk C (d + 2) fid (bodyOf fn k) sp
  | [], _, f, k, sp, h => by simp [findLoop] at h
  | (g, j, T) :: r, ha, f, k, sp, h => by
    simp only [findLoop] at h
    cases hb : (Nat.beq g f && Nat.beq j k) with
    | true =>
      rw [hb] at h
      simp only [cond_true, Option.some.injEq] at h
      subst h
      simp only [Bool.and_eq_true] at hb
      have e1 := Nat.eq_of_beq_eq_true hb.1
      have e2 := Nat.eq_of_beq_eq_true hb.2
      subst e1 e2
      exact ⟨ha.1, ha.2.1⟩
    | false => rw [hb] at h; exact findLoop_of ha.2.2 h
/-- the loops of a configuration, all of one function -/
theorem loopsOk_of {C : Cfg} {fid : FuncId} {fn : Func} (hf : C.P.funcs[fid]? = some fn) (hn : ∀ whole, fn.body = some whole → nodupN ((loopsOf whole).map keyOf) = true) (ha : AllLoops C fid fn C.loops) : LoopsOk C := by
  intro f k sp h fn' whole hf' hw body hb hk d
  obtain ⟨rfl, hl⟩ := findLoop_of ha h
  rw [hf] at hf'
  cases hf'
  rw [bodyOf_eq hw (hn whole hw) hb hk]
  exact hl d
/-- all that a function without a fault in its text needs -/
theorem fn_sound (C : Cfg) (d : Nat) (f : FuncId) (fn : Func) (hm : C.P.follows .mixedOrders = true) (hf : C.P.funcs[f]? = some fn) (hb : (match fn.body with | some c => nodupN ((loopsOf c).map keyOf) | none => false) = true) (hn : (fn.name == "runtime.NumGoroutine") = false)
    (hs : AllSound C.P C.globs C.sums) (hl : AllLoops C f fn C.loops) (I O : Sig) (t : DenS I → Option (DenS O)) (dflt : DenS O) (h : ∀ x, run C d f fn I O x = t x) : Sound C.P C.globs f (sumOf I O t dflt) := by
  have hb' : ∃ c, fn.body = some c ∧ nodupN ((loopsOf c).map keyOf) = true := by
    cases e : fn.body with
    | none => rw [e] at hb; cases hb
    | some c => rw [e] at hb; exact ⟨c, rfl, hb⟩
  obtain ⟨c, e, hc⟩ := hb'
  exact sumOf_sound ⟨fun g mem args S => sumsOk_of hs g mem args S, hm⟩ (loopsOk_of hf (fun w hw => by rw [e] at hw; cases hw; exact hc) hl) d f fn hf (by rw [e]; rfl) hn I O t dflt h
/-- beside more tables -/
theorem Sound.more {P : Program} {G G' : List (Nat × Sigma fun τ => List (Den τ))} {f : FuncId} {S : Sum} (hs : Sound P G f S) (h : ∀ g x, findGlob G g = some x → findGlob G' g = some x) : Sound P G' f S :=
  ⟨fun x hp w St ys rs a hG b c d => hs.calls x hp w St ys rs a (fun g τ xs e => hG g τ xs (h g _ e)) b c d⟩
end Vx
namespace Vx
open Go
def FloatKind.ik : FloatKind → IntKind
  | .f32 => .u32
  | .f64 => .u64
theorem ik_bits (k : FloatKind) (n : Int) (h1 : (FloatKind.ik k).min ≤ n) (h2 : n ≤ (FloatKind.ik k).max) : 0 ≤ n ∧ n.toNat < 2 ^ fbits k := by
  cases k
  · have h1 : (0 : Int) ≤ n := h1
    have h2 : n ≤ 4294967295 := h2
    refine ⟨h1, ?_⟩
    show n.toNat < 4294967296
    omega
  · have h1 : (0 : Int) ≤ n := h1
    have h2 : n ≤ 18446744073709551615 := h2
    refine ⟨h1, ?_⟩
    show n.toNat < 18446744073709551616
    omega
/-- a float of some bits -/
noncomputable def fromSum (k : FloatKind) : Sum := { ins := [(false, .int (FloatKind.ik k))], outs := [(false, .flt k)], pre := fun _ => true, F := fun x => (some x.1.toNat, ()) }
theorem from_sound {P : Program} {G : List (Nat × Sigma fun τ => List (Den τ))} {f : FuncId} {fn : Func} {e : Array Value → Sem Value} (k : FloatKind) (hf : P.funcs[f]? = some fn) (hname : (fn.name == "runtime.NumGoroutine") = false)
    (hb : fn.body.isNone = true) (hn : Extern.findNext fn = none) (he : Extern.find fn = some e) (hrun : ∀ n, e #[.int (FloatKind.ik k) n] = pure (.float k n.toNat)) : Sound P G f (fromSum k) := by
  refine ⟨fun z hz w St ys rs hSt _ hr hnd hrs => .inr ?_⟩
  obtain ⟨y1, l1, r1, q1, rfl, rfl, ⟨rfl, h1⟩, rfl, rfl⟩ := hr
  obtain ⟨x, ⟨⟩⟩ := z
  obtain ⟨e1, b1⟩ := h1
  cases e1
  obtain ⟨_, g2⟩ := ik_bits k x b1.1 b1.2
  refine ⟨_, by rw [run_callFunc_extern hf hname hb hn he]; show ((e #[_]).run P w).andThen _ = _; rw [hrun]; rfl, [.float k x.toNat], [], rfl, ⟨rfl, rfl, rfl, Nat.le_refl _, fun _ _ _ => rfl⟩, fun r hr => by simp at hr, List.nodup_nil, ?_⟩
  exact ⟨_, _, [], [], rfl, rfl, ⟨rfl, ⟨_, rfl, _, rfl, g2, rfl⟩⟩, rfl, rfl⟩
end Vx
namespace Vx
open Go Go.Proofs
abbrev rowsSh : Shape := .pair (.int .i64) (.pair (.int .i64) (.pair (.int .i64) (.pair (.int .i64) .unit)))
def k_rows : List (Den rowsSh) := [(16,11,-14,15,()), (16,8,-126,127,()), (32,24,-126,127,()), (64,53,-1022,1023,())]
def G0 : List (Nat × Sigma fun τ => List (Den τ)) := [(1, ⟨rowsSh, k_rows⟩)]
theorem mixedOk : Tryd.prog.follows .mixedOrders = true := by kernel_rfl
/-- vernier/format.Params -/
abbrev I22 : Sig := [(false, .int .i64)]
abbrev O22 : Sig := [(true, .pair (.int .i64) (.pair (.int .i64) (.pair (.int .i64) (.pair (.int .i64) (.unit))))), (false, .int .i64)]
noncomputable def t22 (a0 : Den (.int .i64)) : Option (DenS O22) :=
  bif ((decide (a0 < (0 : Int))) || (decide (a0 ≥ (4 : Int)))) then
  (some (((0 : Int), ((0 : Int), ((0 : Int), ((0 : Int), ())))), ((2 : Int), ())))
  else bif ((decide ((0 : Int) ≤ a0)) && (decide (a0 < ((4 : Nat) : Int)))) then
  (some ((Vx.k_rows.getD (Int.toNat a0) ((0 : Int), ((0 : Int), ((0 : Int), ((0 : Int), ()))))), ((0 : Int), ())))
  else none
theorem r22 (a0 : Den (.int .i64)) :
    run { P := Go.Proofs.Tryd.prog, sums := [], loops := [], globs := G0 } 9 22 Go.Proofs.Tryd.f22 I22 O22 (a0, ()) = t22 a0 := by kernel_rfl
noncomputable def T22 (x : DenS I22) : Option (DenS O22) := t22 x.1
noncomputable def C22 : Cfg := { P := Go.Proofs.Tryd.prog, sums := [], loops := [], globs := G0 }
noncomputable def S22 : Sum := sumOf I22 O22 T22 (DenS.dflt O22)
theorem S22_sound : Sound Go.Proofs.Tryd.prog G0 22 S22 :=
  fn_sound C22 9 22 Go.Proofs.Tryd.f22 mixedOk (by kernel_rfl) (by kernel_rfl) (by kernel_rfl) trivial trivial I22 O22 T22 _ fun x => r22 x.1
/-- vernier/format.Check -/
abbrev I48 : Sig := [(false, .int .i64), (false, .int .u64)]
abbrev O48 : Sig := [(false, .int .i64)]
noncomputable def t48 (p22 : DenS I22 → Bool) (f22 : DenS I22 → DenS O22) (a0 : Den (.int .i64)) (a1 : Den (.int .u64)) : Option (DenS O48) :=
  bif (p22 (a0, ())) then
  (bif ((f22 (a0, ())).2.1 != (0 : Int)) then
  (some (f22 (a0, ())).2)
  else bif ((decide ((0 : Int) ≤ (f22 (a0, ())).1.1)) || (!(decide ((f22 (a0, ())).1.1 < (64 : Int))))) then
  (bif ((decide ((f22 (a0, ())).1.1 < (64 : Int))) && ((Vx.shrI Go.IntKind.u64 a1 (f22 (a0, ())).1.1) != (0 : Int))) then
  (some ((4 : Int), ()))
  else some ((0 : Int), ()))
  else none)
  else none
theorem r48 (p22 : DenS I22 → Bool) (f22 : DenS I22 → DenS O22) (a0 : Den (.int .i64)) (a1 : Den (.int .u64)) :
    run { P := Go.Proofs.Tryd.prog, sums := [(22, ⟨I22, O22, p22, f22⟩)], loops := [], globs := G0 } 9 48 Go.Proofs.Tryd.f48 I48 O48 (a0, a1, ()) = t48 p22 f22 a0 a1 := by kernel_rfl
noncomputable def T48 (x : DenS I48) : Option (DenS O48) := t48 S22.pre S22.F x.1 x.2.1
noncomputable def C48 : Cfg := { P := Go.Proofs.Tryd.prog, sums := [(22, S22)], loops := [], globs := G0 }
noncomputable def S48 : Sum := sumOf I48 O48 T48 (DenS.dflt O48)
theorem S48_sound : Sound Go.Proofs.Tryd.prog G0 48 S48 :=
  fn_sound C48 9 48 Go.Proofs.Tryd.f48 mixedOk (by kernel_rfl) (by kernel_rfl) (by kernel_rfl) ⟨S22_sound, trivial⟩ trivial I48 O48 T48 _ fun x => r48 S22.pre S22.F x.1 x.2.1
/-- vernier/format.ones -/
abbrev I54 : Sig := [(false, .int .i64)]
abbrev O54 : Sig := [(false, .int .u64)]
noncomputable def t54 (a0 : Den (.int .i64)) : Option (DenS O54) :=
  bif (decide ((0 : Int) ≤ a0)) then
  (some ((Go.IntKind.wrap Go.IntKind.u64 ((Vx.shlI Go.IntKind.u64 (1 : Int) a0) - (1 : Int))), ()))
  else none
theorem r54 (a0 : Den (.int .i64)) :
    run { P := Go.Proofs.Tryd.prog, sums := [], loops := [], globs := G0 } 9 54 Go.Proofs.Tryd.f54 I54 O54 (a0, ()) = t54 a0 := by kernel_rfl
noncomputable def T54 (x : DenS I54) : Option (DenS O54) := t54 x.1
noncomputable def C54 : Cfg := { P := Go.Proofs.Tryd.prog, sums := [], loops := [], globs := G0 }
noncomputable def S54 : Sum := sumOf I54 O54 T54 (DenS.dflt O54)
theorem S54_sound : Sound Go.Proofs.Tryd.prog G0 54 S54 :=
  fn_sound C54 9 54 Go.Proofs.Tryd.f54 mixedOk (by kernel_rfl) (by kernel_rfl) (by kernel_rfl) trivial trivial I54 O54 T54 _ fun x => r54 x.1
/-- vernier/format.split -/
abbrev I63 : Sig := [(true, .pair (.int .i64) (.pair (.int .i64) (.pair (.int .i64) (.pair (.int .i64) (.unit))))), (false, .int .u64)]
abbrev O63 : Sig := [(false, .bool), (false, .int .u64), (false, .int .u64)]
noncomputable def t63 (p54 : DenS I54 → Bool) (f54 : DenS I54 → DenS O54) (a0 : Den (.pair (.int .i64) (.pair (.int .i64) (.pair (.int .i64) (.pair (.int .i64) (.unit)))))) (a1 : Den (.int .u64)) : Option (DenS O63) :=
  bif (decide ((0 : Int) ≤ (Go.IntKind.wrap Go.IntKind.i64 (a0.1 - (1 : Int))))) then
  (bif (decide ((0 : Int) ≤ (Go.IntKind.wrap Go.IntKind.i64 (a0.2.1 - (1 : Int))))) then
  (bif (p54 ((Go.IntKind.wrap Go.IntKind.i64 (a0.1 - a0.2.1)), ())) then
  (bif (p54 ((Go.IntKind.wrap Go.IntKind.i64 (a0.2.1 - (1 : Int))), ())) then
  (some (((Vx.shrI Go.IntKind.u64 a1 (Go.IntKind.wrap Go.IntKind.i64 (a0.1 - (1 : Int)))) != (0 : Int)), ((Vx.andI Go.IntKind.u64 (Vx.shrI Go.IntKind.u64 a1 (Go.IntKind.wrap Go.IntKind.i64 (a0.2.1 - (1 : Int)))) (f54 ((Go.IntKind.wrap Go.IntKind.i64 (a0.1 - a0.2.1)), ())).1), ((Vx.andI Go.IntKind.u64 a1 (f54 ((Go.IntKind.wrap Go.IntKind.i64 (a0.2.1 - (1 : Int))), ())).1), ()))))
  else none)
  else none)
  else none)
  else none
theorem r63 (p54 : DenS I54 → Bool) (f54 : DenS I54 → DenS O54) (a0 : Den (.pair (.int .i64) (.pair (.int .i64) (.pair (.int .i64) (.pair (.int .i64) (.unit)))))) (a1 : Den (.int .u64)) :
    run { P := Go.Proofs.Tryd.prog, sums := [(54, ⟨I54, O54, p54, f54⟩)], loops := [], globs := G0 } 9 63 Go.Proofs.Tryd.f63 I63 O63 (a0, a1, ()) = t63 p54 f54 a0 a1 := by kernel_rfl
noncomputable def T63 (x : DenS I63) : Option (DenS O63) := t63 S54.pre S54.F x.1 x.2.1
noncomputable def C63 : Cfg := { P := Go.Proofs.Tryd.prog, sums := [(54, S54)], loops := [], globs := G0 }
noncomputable def S63 : Sum := sumOf I63 O63 T63 (DenS.dflt O63)
theorem S63_sound : Sound Go.Proofs.Tryd.prog G0 63 S63 :=
  fn_sound C63 9 63 Go.Proofs.Tryd.f63 mixedOk (by kernel_rfl) (by kernel_rfl) (by kernel_rfl) ⟨S54_sound, trivial⟩ trivial I63 O63 T63 _ fun x => r63 S54.pre S54.F x.1 x.2.1
/-- vernier/format.Class -/
abbrev I26 : Sig := [(false, .int .i64), (false, .int .u64)]
abbrev O26 : Sig := [(false, .int .i64), (false, .int .i64)]
noncomputable def t26 (p48 : DenS I48 → Bool) (f48 : DenS I48 → DenS O48) (p63 : DenS I63 → Bool) (f63 : DenS I63 → DenS O63) (p54 : DenS I54 → Bool) (f54 : DenS I54 → DenS O54) (a0 : Den (.int .i64)) (a1 : Den (.int .u64)) : Option (DenS O26) :=
  bif (p48 (a0, (a1, ()))) then
  (bif ((f48 (a0, (a1, ()))).1 != (0 : Int)) then
  (some ((0 : Int), (f48 (a0, (a1, ())))))
  else bif ((decide ((0 : Int) ≤ a0)) && (decide (a0 < ((4 : Nat) : Int)))) then
  (bif (p63 ((Vx.k_rows.getD (Int.toNat a0) ((0 : Int), ((0 : Int), ((0 : Int), ((0 : Int), ()))))), (a1, ()))) then
  (bif (p54 ((Go.IntKind.wrap Go.IntKind.i64 ((Vx.k_rows.getD (Int.toNat a0) ((0 : Int), ((0 : Int), ((0 : Int), ((0 : Int), ()))))).1 - (Vx.k_rows.getD (Int.toNat a0) ((0 : Int), ((0 : Int), ((0 : Int), ((0 : Int), ()))))).2.1)), ())) then
  (bif (((f63 ((Vx.k_rows.getD (Int.toNat a0) ((0 : Int), ((0 : Int), ((0 : Int), ((0 : Int), ()))))), (a1, ()))).2.1 == (f54 ((Go.IntKind.wrap Go.IntKind.i64 ((Vx.k_rows.getD (Int.toNat a0) ((0 : Int), ((0 : Int), ((0 : Int), ((0 : Int), ()))))).1 - (Vx.k_rows.getD (Int.toNat a0) ((0 : Int), ((0 : Int), ((0 : Int), ((0 : Int), ()))))).2.1)), ())).1) && ((f63 ((Vx.k_rows.getD (Int.toNat a0) ((0 : Int), ((0 : Int), ((0 : Int), ((0 : Int), ()))))), (a1, ()))).2.2.1 == (0 : Int))) then
  (bif (f63 ((Vx.k_rows.getD (Int.toNat a0) ((0 : Int), ((0 : Int), ((0 : Int), ((0 : Int), ()))))), (a1, ()))).1 then
  (some ((Go.IntKind.wrap Go.IntKind.i64 ((11 : Int) - (9 : Int))), ((0 : Int), ())))
  else some ((9 : Int), ((0 : Int), ())))
  else bif (p54 ((Go.IntKind.wrap Go.IntKind.i64 ((Vx.k_rows.getD (Int.toNat a0) ((0 : Int), ((0 : Int), ((0 : Int), ((0 : Int), ()))))).1 - (Vx.k_rows.getD (Int.toNat a0) ((0 : Int), ((0 : Int), ((0 : Int), ((0 : Int), ()))))).2.1)), ())) then
  (bif ((decide ((0 : Int) ≤ (Go.IntKind.wrap Go.IntKind.i64 ((Vx.k_rows.getD (Int.toNat a0) ((0 : Int), ((0 : Int), ((0 : Int), ((0 : Int), ()))))).2.1 - (2 : Int))))) || (!(decide ((f63 ((Vx.k_rows.getD (Int.toNat a0) ((0 : Int), ((0 : Int), ((0 : Int), ((0 : Int), ()))))), (a1, ()))).2.1 = (f54 ((Go.IntKind.wrap Go.IntKind.i64 ((Vx.k_rows.getD (Int.toNat a0) ((0 : Int), ((0 : Int), ((0 : Int), ((0 : Int), ()))))).1 - (Vx.k_rows.getD (Int.toNat a0) ((0 : Int), ((0 : Int), ((0 : Int), ((0 : Int), ()))))).2.1)), ())).1)))) then
  (bif (((f63 ((Vx.k_rows.getD (Int.toNat a0) ((0 : Int), ((0 : Int), ((0 : Int), ((0 : Int), ()))))), (a1, ()))).2.1 == (f54 ((Go.IntKind.wrap Go.IntKind.i64 ((Vx.k_rows.getD (Int.toNat a0) ((0 : Int), ((0 : Int), ((0 : Int), ((0 : Int), ()))))).1 - (Vx.k_rows.getD (Int.toNat a0) ((0 : Int), ((0 : Int), ((0 : Int), ((0 : Int), ()))))).2.1)), ())).1) && ((Vx.shrI Go.IntKind.u64 (f63 ((Vx.k_rows.getD (Int.toNat a0) ((0 : Int), ((0 : Int), ((0 : Int), ((0 : Int), ()))))), (a1, ()))).2.2.1 (Go.IntKind.wrap Go.IntKind.i64 ((Vx.k_rows.getD (Int.toNat a0) ((0 : Int), ((0 : Int), ((0 : Int), ((0 : Int), ()))))).2.1 - (2 : Int)))) != (0 : Int))) then
  (some ((1 : Int), ((0 : Int), ())))
  else bif (p54 ((Go.IntKind.wrap Go.IntKind.i64 ((Vx.k_rows.getD (Int.toNat a0) ((0 : Int), ((0 : Int), ((0 : Int), ((0 : Int), ()))))).1 - (Vx.k_rows.getD (Int.toNat a0) ((0 : Int), ((0 : Int), ((0 : Int), ((0 : Int), ()))))).2.1)), ())) then
  (bif ((f63 ((Vx.k_rows.getD (Int.toNat a0) ((0 : Int), ((0 : Int), ((0 : Int), ((0 : Int), ()))))), (a1, ()))).2.1 == (f54 ((Go.IntKind.wrap Go.IntKind.i64 ((Vx.k_rows.getD (Int.toNat a0) ((0 : Int), ((0 : Int), ((0 : Int), ((0 : Int), ()))))).1 - (Vx.k_rows.getD (Int.toNat a0) ((0 : Int), ((0 : Int), ((0 : Int), ((0 : Int), ()))))).2.1)), ())).1) then
  (some ((0 : Int), ((0 : Int), ())))
  else bif (((f63 ((Vx.k_rows.getD (Int.toNat a0) ((0 : Int), ((0 : Int), ((0 : Int), ((0 : Int), ()))))), (a1, ()))).2.1 == (0 : Int)) && ((f63 ((Vx.k_rows.getD (Int.toNat a0) ((0 : Int), ((0 : Int), ((0 : Int), ((0 : Int), ()))))), (a1, ()))).2.2.1 == (0 : Int))) then
  (bif (f63 ((Vx.k_rows.getD (Int.toNat a0) ((0 : Int), ((0 : Int), ((0 : Int), ((0 : Int), ()))))), (a1, ()))).1 then
  (some ((Go.IntKind.wrap Go.IntKind.i64 ((11 : Int) - (6 : Int))), ((0 : Int), ())))
  else some ((6 : Int), ((0 : Int), ())))
  else bif ((f63 ((Vx.k_rows.getD (Int.toNat a0) ((0 : Int), ((0 : Int), ((0 : Int), ((0 : Int), ()))))), (a1, ()))).2.1 == (0 : Int)) then
  (bif (f63 ((Vx.k_rows.getD (Int.toNat a0) ((0 : Int), ((0 : Int), ((0 : Int), ((0 : Int), ()))))), (a1, ()))).1 then
  (some ((Go.IntKind.wrap Go.IntKind.i64 ((11 : Int) - (7 : Int))), ((0 : Int), ())))
  else some ((7 : Int), ((0 : Int), ())))
  else bif (f63 ((Vx.k_rows.getD (Int.toNat a0) ((0 : Int), ((0 : Int), ((0 : Int), ((0 : Int), ()))))), (a1, ()))).1 then
  (some ((Go.IntKind.wrap Go.IntKind.i64 ((11 : Int) - (8 : Int))), ((0 : Int), ())))
  else some ((8 : Int), ((0 : Int), ())))
  else none)
  else none)
  else none)
  else none)
  else none)
  else none)
  else none
theorem r26 (p48 : DenS I48 → Bool) (f48 : DenS I48 → DenS O48) (p63 : DenS I63 → Bool) (f63 : DenS I63 → DenS O63) (p54 : DenS I54 → Bool) (f54 : DenS I54 → DenS O54) (a0 : Den (.int .i64)) (a1 : Den (.int .u64)) :
    run { P := Go.Proofs.Tryd.prog, sums := [(48, ⟨I48, O48, p48, f48⟩), (63, ⟨I63, O63, p63, f63⟩), (54, ⟨I54, O54, p54, f54⟩)], loops := [], globs := G0 } 9 26 Go.Proofs.Tryd.f26 I26 O26 (a0, a1, ()) = t26 p48 f48 p63 f63 p54 f54 a0 a1 := by kernel_rfl
noncomputable def T26 (x : DenS I26) : Option (DenS O26) := t26 S48.pre S48.F S63.pre S63.F S54.pre S54.F x.1 x.2.1
noncomputable def C26 : Cfg := { P := Go.Proofs.Tryd.prog, sums := [(48, S48), (63, S63), (54, S54)], loops := [], globs := G0 }
noncomputable def S26 : Sum := sumOf I26 O26 T26 (DenS.dflt O26)
theorem S26_sound : Sound Go.Proofs.Tryd.prog G0 26 S26 :=
  fn_sound C26 9 26 Go.Proofs.Tryd.f26 mixedOk (by kernel_rfl) (by kernel_rfl) (by kernel_rfl) ⟨S48_sound, ⟨S63_sound, ⟨S54_sound, trivial⟩⟩⟩ trivial I26 O26 T26 _ fun x => r26 S48.pre S48.F S63.pre S63.F S54.pre S54.F x.1 x.2.1
/-- vernier/format.sign -/
abbrev I64 : Sig := [(false, .int .i64)]
abbrev O64 : Sig := [(false, .int .u64)]
noncomputable def t64 (a0 : Den (.int .i64)) : Option (DenS O64) :=
  bif ((decide ((0 : Int) ≤ a0)) && (decide (a0 < ((4 : Nat) : Int)))) then
  (bif (decide ((0 : Int) ≤ (Go.IntKind.wrap Go.IntKind.i64 ((Vx.k_rows.getD (Int.toNat a0) ((0 : Int), ((0 : Int), ((0 : Int), ((0 : Int), ()))))).1 - (1 : Int))))) then
  (some ((Vx.shlI Go.IntKind.u64 (1 : Int) (Go.IntKind.wrap Go.IntKind.i64 ((Vx.k_rows.getD (Int.toNat a0) ((0 : Int), ((0 : Int), ((0 : Int), ((0 : Int), ()))))).1 - (1 : Int)))), ()))
  else none)
  else none
theorem r64 (a0 : Den (.int .i64)) :
    run { P := Go.Proofs.Tryd.prog, sums := [], loops := [], globs := G0 } 9 64 Go.Proofs.Tryd.f64 I64 O64 (a0, ()) = t64 a0 := by kernel_rfl
noncomputable def T64 (x : DenS I64) : Option (DenS O64) := t64 x.1
noncomputable def C64 : Cfg := { P := Go.Proofs.Tryd.prog, sums := [], loops := [], globs := G0 }
noncomputable def S64 : Sum := sumOf I64 O64 T64 (DenS.dflt O64)
theorem S64_sound : Sound Go.Proofs.Tryd.prog G0 64 S64 :=
  fn_sound C64 9 64 Go.Proofs.Tryd.f64 mixedOk (by kernel_rfl) (by kernel_rfl) (by kernel_rfl) trivial trivial I64 O64 T64 _ fun x => r64 x.1
/-- vernier/format.Abs -/
abbrev I28 : Sig := [(false, .int .i64), (false, .int .u64)]
abbrev O28 : Sig := [(false, .int .u64), (false, .int .i64)]
noncomputable def t28 (p48 : DenS I48 → Bool) (f48 : DenS I48 → DenS O48) (p64 : DenS I64 → Bool) (f64 : DenS I64 → DenS O64) (a0 : Den (.int .i64)) (a1 : Den (.int .u64)) : Option (DenS O28) :=
  bif (p48 (a0, (a1, ()))) then
  (bif ((f48 (a0, (a1, ()))).1 != (0 : Int)) then
  (some ((0 : Int), (f48 (a0, (a1, ())))))
  else bif (p64 (a0, ())) then
  (some ((Vx.andNotI Go.IntKind.u64 a1 (f64 (a0, ())).1), ((0 : Int), ())))
  else none)
  else none
theorem r28 (p48 : DenS I48 → Bool) (f48 : DenS I48 → DenS O48) (p64 : DenS I64 → Bool) (f64 : DenS I64 → DenS O64) (a0 : Den (.int .i64)) (a1 : Den (.int .u64)) :
    run { P := Go.Proofs.Tryd.prog, sums := [(48, ⟨I48, O48, p48, f48⟩), (64, ⟨I64, O64, p64, f64⟩)], loops := [], globs := G0 } 9 28 Go.Proofs.Tryd.f28 I28 O28 (a0, a1, ()) = t28 p48 f48 p64 f64 a0 a1 := by kernel_rfl
noncomputable def T28 (x : DenS I28) : Option (DenS O28) := t28 S48.pre S48.F S64.pre S64.F x.1 x.2.1
noncomputable def C28 : Cfg := { P := Go.Proofs.Tryd.prog, sums := [(48, S48), (64, S64)], loops := [], globs := G0 }
noncomputable def S28 : Sum := sumOf I28 O28 T28 (DenS.dflt O28)
theorem S28_sound : Sound Go.Proofs.Tryd.prog G0 28 S28 :=
  fn_sound C28 9 28 Go.Proofs.Tryd.f28 mixedOk (by kernel_rfl) (by kernel_rfl) (by kernel_rfl) ⟨S48_sound, ⟨S64_sound, trivial⟩⟩ trivial I28 O28 T28 _ fun x => r28 S48.pre S48.F S64.pre S64.F x.1 x.2.1
/-- vernier/order.open -/
abbrev I52 : Sig := [(false, .int .i64), (false, .int .u64)]
abbrev O52 : Sig := [(true, .pair (.int .i64) (.pair (.int .i64) (.unit))), (false, .int .i64)]
noncomputable def t52 (p26 : DenS I26 → Bool) (f26 : DenS I26 → DenS O26) (p28 : DenS I28 → Bool) (f28 : DenS I28 → DenS O28) (a0 : Den (.int .i64)) (a1 : Den (.int .u64)) : Option (DenS O52) :=
  bif (p26 (a0, (a1, ()))) then
  (bif ((f26 (a0, (a1, ()))).2.1 != (0 : Int)) then
  (some (((0 : Int), ((0 : Int), ())), (f26 (a0, (a1, ()))).2))
  else bif (p28 (a0, (a1, ()))) then
  (bif ((f28 (a0, (a1, ()))).1 != a1) then
  (some (((f26 (a0, (a1, ()))).1, ((Go.IntKind.wrap Go.IntKind.i64 ((0 : Int) - (Go.IntKind.wrap Go.IntKind.i64 (f28 (a0, (a1, ()))).1))), ())), ((0 : Int), ())))
  else some (((f26 (a0, (a1, ()))).1, ((Go.IntKind.wrap Go.IntKind.i64 (f28 (a0, (a1, ()))).1), ())), ((0 : Int), ())))
  else none)
  else none
theorem r52 (p26 : DenS I26 → Bool) (f26 : DenS I26 → DenS O26) (p28 : DenS I28 → Bool) (f28 : DenS I28 → DenS O28) (a0 : Den (.int .i64)) (a1 : Den (.int .u64)) :
    run { P := Go.Proofs.Tryd.prog, sums := [(26, ⟨I26, O26, p26, f26⟩), (28, ⟨I28, O28, p28, f28⟩)], loops := [], globs := G0 } 9 52 Go.Proofs.Tryd.f52 I52 O52 (a0, a1, ()) = t52 p26 f26 p28 f28 a0 a1 := by kernel_rfl
noncomputable def T52 (x : DenS I52) : Option (DenS O52) := t52 S26.pre S26.F S28.pre S28.F x.1 x.2.1
noncomputable def C52 : Cfg := { P := Go.Proofs.Tryd.prog, sums := [(26, S26), (28, S28)], loops := [], globs := G0 }
noncomputable def S52 : Sum := sumOf I52 O52 T52 (DenS.dflt O52)
theorem S52_sound : Sound Go.Proofs.Tryd.prog G0 52 S52 :=
  fn_sound C52 9 52 Go.Proofs.Tryd.f52 mixedOk (by kernel_rfl) (by kernel_rfl) (by kernel_rfl) ⟨S26_sound, ⟨S28_sound, trivial⟩⟩ trivial I52 O52 T52 _ fun x => r52 S26.pre S26.F S28.pre S28.F x.1 x.2.1
/-- vernier/order.both -/
abbrev I41 : Sig := [(false, .int .i64), (false, .int .u64), (false, .int .u64)]
abbrev O41 : Sig := [(true, .pair (.int .i64) (.pair (.int .i64) (.unit))), (true, .pair (.int .i64) (.pair (.int .i64) (.unit))), (false, .int .i64)]
noncomputable def t41 (p52 : DenS I52 → Bool) (f52 : DenS I52 → DenS O52) (a0 : Den (.int .i64)) (a1 : Den (.int .u64)) (a2 : Den (.int .u64)) : Option (DenS O41) :=
  bif (p52 (a0, (a1, ()))) then
  (bif ((f52 (a0, (a1, ()))).2.1 != (0 : Int)) then
  (some ((f52 (a0, (a1, ()))).1, (((0 : Int), ((0 : Int), ())), (f52 (a0, (a1, ()))).2)))
  else bif (p52 (a0, (a2, ()))) then
  (some ((f52 (a0, (a1, ()))).1, (f52 (a0, (a2, ())))))
  else none)
  else none
theorem r41 (p52 : DenS I52 → Bool) (f52 : DenS I52 → DenS O52) (a0 : Den (.int .i64)) (a1 : Den (.int .u64)) (a2 : Den (.int .u64)) :
    run { P := Go.Proofs.Tryd.prog, sums := [(52, ⟨I52, O52, p52, f52⟩)], loops := [], globs := G0 } 9 41 Go.Proofs.Tryd.f41 I41 O41 (a0, a1, a2, ()) = t41 p52 f52 a0 a1 a2 := by kernel_rfl
noncomputable def T41 (x : DenS I41) : Option (DenS O41) := t41 S52.pre S52.F x.1 x.2.1 x.2.2.1
noncomputable def C41 : Cfg := { P := Go.Proofs.Tryd.prog, sums := [(52, S52)], loops := [], globs := G0 }
noncomputable def S41 : Sum := sumOf I41 O41 T41 (DenS.dflt O41)
theorem S41_sound : Sound Go.Proofs.Tryd.prog G0 41 S41 :=
  fn_sound C41 9 41 Go.Proofs.Tryd.f41 mixedOk (by kernel_rfl) (by kernel_rfl) (by kernel_rfl) ⟨S52_sound, trivial⟩ trivial I41 O41 T41 _ fun x => r41 S52.pre S52.F x.1 x.2.1 x.2.2.1
/-- (vernier/order.operand).nan -/
abbrev I42 : Sig := [(true, .pair (.int .i64) (.pair (.int .i64) (.unit)))]
abbrev O42 : Sig := [(false, .bool)]
noncomputable def t42 (a0 : Den (.pair (.int .i64) (.pair (.int .i64) (.unit)))) : Option (DenS O42) :=
  some (((a0.1 == (1 : Int)) || (a0.1 == (0 : Int))), ())
theorem r42 (a0 : Den (.pair (.int .i64) (.pair (.int .i64) (.unit)))) :
    run { P := Go.Proofs.Tryd.prog, sums := [], loops := [], globs := G0 } 9 42 Go.Proofs.Tryd.f42 I42 O42 (a0, ()) = t42 a0 := by kernel_rfl
noncomputable def T42 (x : DenS I42) : Option (DenS O42) := t42 x.1
noncomputable def C42 : Cfg := { P := Go.Proofs.Tryd.prog, sums := [], loops := [], globs := G0 }
noncomputable def S42 : Sum := sumOf I42 O42 T42 (DenS.dflt O42)
theorem S42_sound : Sound Go.Proofs.Tryd.prog G0 42 S42 :=
  fn_sound C42 9 42 Go.Proofs.Tryd.f42 mixedOk (by kernel_rfl) (by kernel_rfl) (by kernel_rfl) trivial trivial I42 O42 T42 _ fun x => r42 x.1
/-- vernier/order.loud -/
abbrev I43 : Sig := [(true, .pair (.int .i64) (.pair (.int .i64) (.unit))), (true, .pair (.int .i64) (.pair (.int .i64) (.unit)))]
abbrev O43 : Sig := [(false, .int .i64)]
noncomputable def t43 (a0 : Den (.pair (.int .i64) (.pair (.int .i64) (.unit)))) (a1 : Den (.pair (.int .i64) (.pair (.int .i64) (.unit)))) : Option (DenS O43) :=
  bif ((a0.1 == (0 : Int)) || (a1.1 == (0 : Int))) then
  (some ((1 : Int), ()))
  else some ((0 : Int), ())
theorem r43 (a0 : Den (.pair (.int .i64) (.pair (.int .i64) (.unit)))) (a1 : Den (.pair (.int .i64) (.pair (.int .i64) (.unit)))) :
    run { P := Go.Proofs.Tryd.prog, sums := [], loops := [], globs := G0 } 9 43 Go.Proofs.Tryd.f43 I43 O43 (a0, a1, ()) = t43 a0 a1 := by kernel_rfl
noncomputable def T43 (x : DenS I43) : Option (DenS O43) := t43 x.1 x.2.1
noncomputable def C43 : Cfg := { P := Go.Proofs.Tryd.prog, sums := [], loops := [], globs := G0 }
noncomputable def S43 : Sum := sumOf I43 O43 T43 (DenS.dflt O43)
theorem S43_sound : Sound Go.Proofs.Tryd.prog G0 43 S43 :=
  fn_sound C43 9 43 Go.Proofs.Tryd.f43 mixedOk (by kernel_rfl) (by kernel_rfl) (by kernel_rfl) trivial trivial I43 O43 T43 _ fun x => r43 x.1 x.2.1
/-- vernier/order.Compare -/
abbrev I11 : Sig := [(false, .int .i64), (false, .int .u64), (false, .int .u64), (false, .bool)]
abbrev O11 : Sig := [(false, .int .i64), (false, .int .i64), (false, .int .i64)]
noncomputable def t11 (p41 : DenS I41 → Bool) (f41 : DenS I41 → DenS O41) (p42 : DenS I42 → Bool) (f42 : DenS I42 → DenS O42) (p43 : DenS I43 → Bool) (f43 : DenS I43 → DenS O43) (a0 : Den (.int .i64)) (a1 : Den (.int .u64)) (a2 : Den (.int .u64)) (a3 : Den (.bool)) : Option (DenS O11) :=
  bif (p41 (a0, (a1, (a2, ())))) then
  (bif ((f41 (a0, (a1, (a2, ())))).2.2.1 != (0 : Int)) then
  (some ((0 : Int), ((0 : Int), (f41 (a0, (a1, (a2, ())))).2.2)))
  else bif (p42 ((f41 (a0, (a1, (a2, ())))).1, ())) then
  (bif ((p42 ((f41 (a0, (a1, (a2, ())))).2.1, ())) || (!(bif (f42 ((f41 (a0, (a1, (a2, ())))).1, ())).1 then false else true))) then
  (bif ((f42 ((f41 (a0, (a1, (a2, ())))).1, ())).1 || (f42 ((f41 (a0, (a1, (a2, ())))).2.1, ())).1) then
  (bif (p43 ((f41 (a0, (a1, (a2, ())))).1, ((f41 (a0, (a1, (a2, ())))).2.1, ()))) then
  (bif a3 then
  (some ((3 : Int), ((1 : Int), ((0 : Int), ()))))
  else some ((3 : Int), ((f43 ((f41 (a0, (a1, (a2, ())))).1, ((f41 (a0, (a1, (a2, ())))).2.1, ()))).1, ((0 : Int), ()))))
  else none)
  else bif (decide ((f41 (a0, (a1, (a2, ())))).1.2.1 < (f41 (a0, (a1, (a2, ())))).2.1.2.1)) then
  (some ((0 : Int), ((0 : Int), ((0 : Int), ()))))
  else bif (decide ((f41 (a0, (a1, (a2, ())))).1.2.1 > (f41 (a0, (a1, (a2, ())))).2.1.2.1)) then
  (some ((2 : Int), ((0 : Int), ((0 : Int), ()))))
  else some ((1 : Int), ((0 : Int), ((0 : Int), ()))))
  else none)
  else none)
  else none
theorem r11 (p41 : DenS I41 → Bool) (f41 : DenS I41 → DenS O41) (p42 : DenS I42 → Bool) (f42 : DenS I42 → DenS O42) (p43 : DenS I43 → Bool) (f43 : DenS I43 → DenS O43) (a0 : Den (.int .i64)) (a1 : Den (.int .u64)) (a2 : Den (.int .u64)) (a3 : Den (.bool)) :
    run { P := Go.Proofs.Tryd.prog, sums := [(41, ⟨I41, O41, p41, f41⟩), (42, ⟨I42, O42, p42, f42⟩), (43, ⟨I43, O43, p43, f43⟩)], loops := [], globs := G0 } 9 11 Go.Proofs.Tryd.f11 I11 O11 (a0, a1, a2, a3, ()) = t11 p41 f41 p42 f42 p43 f43 a0 a1 a2 a3 := by kernel_rfl
noncomputable def T11 (x : DenS I11) : Option (DenS O11) := t11 S41.pre S41.F S42.pre S42.F S43.pre S43.F x.1 x.2.1 x.2.2.1 x.2.2.2.1
noncomputable def C11 : Cfg := { P := Go.Proofs.Tryd.prog, sums := [(41, S41), (42, S42), (43, S43)], loops := [], globs := G0 }
noncomputable def S11 : Sum := sumOf I11 O11 T11 (DenS.dflt O11)
theorem S11_sound : Sound Go.Proofs.Tryd.prog G0 11 S11 :=
  fn_sound C11 9 11 Go.Proofs.Tryd.f11 mixedOk (by kernel_rfl) (by kernel_rfl) (by kernel_rfl) ⟨S41_sound, ⟨S42_sound, ⟨S43_sound, trivial⟩⟩⟩ trivial I11 O11 T11 _ fun x => r11 S41.pre S41.F S42.pre S42.F S43.pre S43.F x.1 x.2.1 x.2.2.1 x.2.2.2.1
/-- vernier/format.none -/
abbrev I78 : Sig := [(true, .pair (.int .i64) (.pair (.int .i64) (.pair (.int .i64) (.pair (.int .i64) (.unit)))))]
abbrev O78 : Sig := [(false, .int .u64)]
noncomputable def t78 (a0 : Den (.pair (.int .i64) (.pair (.int .i64) (.pair (.int .i64) (.pair (.int .i64) (.unit)))))) : Option (DenS O78) :=
  some ((0 : Int), ())
theorem r78 (a0 : Den (.pair (.int .i64) (.pair (.int .i64) (.pair (.int .i64) (.pair (.int .i64) (.unit)))))) :
    run { P := Go.Proofs.Tryd.prog, sums := [], loops := [], globs := G0 } 9 78 Go.Proofs.Tryd.f78 I78 O78 (a0, ()) = t78 a0 := by kernel_rfl
noncomputable def T78 (x : DenS I78) : Option (DenS O78) := t78 x.1
noncomputable def C78 : Cfg := { P := Go.Proofs.Tryd.prog, sums := [], loops := [], globs := G0 }
noncomputable def S78 : Sum := sumOf I78 O78 T78 (DenS.dflt O78)
theorem S78_sound : Sound Go.Proofs.Tryd.prog G0 78 S78 :=
  fn_sound C78 9 78 Go.Proofs.Tryd.f78 mixedOk (by kernel_rfl) (by kernel_rfl) (by kernel_rfl) trivial trivial I78 O78 T78 _ fun x => r78 x.1
/-- vernier/format.top -/
abbrev I90 : Sig := [(true, .pair (.int .i64) (.pair (.int .i64) (.pair (.int .i64) (.pair (.int .i64) (.unit)))))]
abbrev O90 : Sig := [(false, .int .u64)]
noncomputable def t90 (a0 : Den (.pair (.int .i64) (.pair (.int .i64) (.pair (.int .i64) (.pair (.int .i64) (.unit)))))) : Option (DenS O90) :=
  bif (decide ((0 : Int) ≤ (Go.IntKind.wrap Go.IntKind.i64 (a0.2.1 - (2 : Int))))) then
  (some ((Vx.shlI Go.IntKind.u64 (1 : Int) (Go.IntKind.wrap Go.IntKind.i64 (a0.2.1 - (2 : Int)))), ()))
  else none
theorem r90 (a0 : Den (.pair (.int .i64) (.pair (.int .i64) (.pair (.int .i64) (.pair (.int .i64) (.unit)))))) :
    run { P := Go.Proofs.Tryd.prog, sums := [], loops := [], globs := G0 } 9 90 Go.Proofs.Tryd.f90 I90 O90 (a0, ()) = t90 a0 := by kernel_rfl
noncomputable def T90 (x : DenS I90) : Option (DenS O90) := t90 x.1
noncomputable def C90 : Cfg := { P := Go.Proofs.Tryd.prog, sums := [], loops := [], globs := G0 }
noncomputable def S90 : Sum := sumOf I90 O90 T90 (DenS.dflt O90)
theorem S90_sound : Sound Go.Proofs.Tryd.prog G0 90 S90 :=
  fn_sound C90 9 90 Go.Proofs.Tryd.f90 mixedOk (by kernel_rfl) (by kernel_rfl) (by kernel_rfl) trivial trivial I90 O90 T90 _ fun x => r90 x.1
/-- vernier/format.join -/
abbrev I55 : Sig := [(true, .pair (.int .i64) (.pair (.int .i64) (.pair (.int .i64) (.pair (.int .i64) (.unit))))), (false, .bool), (false, .int .u64), (false, .int .u64)]
abbrev O55 : Sig := [(false, .int .u64)]
noncomputable def t55 (a0 : Den (.pair (.int .i64) (.pair (.int .i64) (.pair (.int .i64) (.pair (.int .i64) (.unit)))))) (a1 : Den (.bool)) (a2 : Den (.int .u64)) (a3 : Den (.int .u64)) : Option (DenS O55) :=
  bif (decide ((0 : Int) ≤ (Go.IntKind.wrap Go.IntKind.i64 (a0.2.1 - (1 : Int))))) then
  (bif a1 then
  (bif (decide ((0 : Int) ≤ (Go.IntKind.wrap Go.IntKind.i64 (a0.1 - (1 : Int))))) then
  (some ((Vx.orI Go.IntKind.u64 (Vx.orI Go.IntKind.u64 (Vx.shlI Go.IntKind.u64 a2 (Go.IntKind.wrap Go.IntKind.i64 (a0.2.1 - (1 : Int)))) a3) (Vx.shlI Go.IntKind.u64 (1 : Int) (Go.IntKind.wrap Go.IntKind.i64 (a0.1 - (1 : Int))))), ()))
  else none)
  else some ((Vx.orI Go.IntKind.u64 (Vx.shlI Go.IntKind.u64 a2 (Go.IntKind.wrap Go.IntKind.i64 (a0.2.1 - (1 : Int)))) a3), ()))
  else none
theorem r55 (a0 : Den (.pair (.int .i64) (.pair (.int .i64) (.pair (.int .i64) (.pair (.int .i64) (.unit)))))) (a1 : Den (.bool)) (a2 : Den (.int .u64)) (a3 : Den (.int .u64)) :
    run { P := Go.Proofs.Tryd.prog, sums := [], loops := [], globs := G0 } 9 55 Go.Proofs.Tryd.f55 I55 O55 (a0, a1, a2, a3, ()) = t55 a0 a1 a2 a3 := by kernel_rfl
noncomputable def T55 (x : DenS I55) : Option (DenS O55) := t55 x.1 x.2.1 x.2.2.1 x.2.2.2.1
noncomputable def C55 : Cfg := { P := Go.Proofs.Tryd.prog, sums := [], loops := [], globs := G0 }
noncomputable def S55 : Sum := sumOf I55 O55 T55 (DenS.dflt O55)
theorem S55_sound : Sound Go.Proofs.Tryd.prog G0 55 S55 :=
  fn_sound C55 9 55 Go.Proofs.Tryd.f55 mixedOk (by kernel_rfl) (by kernel_rfl) (by kernel_rfl) trivial trivial I55 O55 T55 _ fun x => r55 x.1 x.2.1 x.2.2.1 x.2.2.2.1
/-- vernier/format.NaN -/
abbrev I45 : Sig := [(false, .int .i64)]
abbrev O45 : Sig := [(false, .int .u64), (false, .int .i64)]
noncomputable def t45 (p78 : DenS I78 → Bool) (f78 : DenS I78 → DenS O78) (p90 : DenS I90 → Bool) (f90 : DenS I90 → DenS O90) (p22 : DenS I22 → Bool) (f22 : DenS I22 → DenS O22) (p54 : DenS I54 → Bool) (f54 : DenS I54 → DenS O54) (p55 : DenS I55 → Bool) (f55 : DenS I55 → DenS O55) (a0 : Den (.int .i64)) : Option (DenS O45) :=
  bif (p22 (a0, ())) then
  (bif ((f22 (a0, ())).2.1 != (0 : Int)) then
  (some ((0 : Int), (f22 (a0, ())).2))
  else bif (p54 ((Go.IntKind.wrap Go.IntKind.i64 ((f22 (a0, ())).1.1 - (f22 (a0, ())).1.2.1)), ())) then
  (bif (p78 ((f22 (a0, ())).1, ())) then
  (bif (p90 ((f22 (a0, ())).1, ())) then
  (bif (p55 ((f22 (a0, ())).1, (false, ((Go.IntKind.wrap Go.IntKind.u64 ((f54 ((Go.IntKind.wrap Go.IntKind.i64 ((f22 (a0, ())).1.1 - (f22 (a0, ())).1.2.1)), ())).1 - (f78 ((f22 (a0, ())).1, ())).1)), (f90 ((f22 (a0, ())).1, ())))))) then
  (some ((f55 ((f22 (a0, ())).1, (false, ((Go.IntKind.wrap Go.IntKind.u64 ((f54 ((Go.IntKind.wrap Go.IntKind.i64 ((f22 (a0, ())).1.1 - (f22 (a0, ())).1.2.1)), ())).1 - (f78 ((f22 (a0, ())).1, ())).1)), (f90 ((f22 (a0, ())).1, ())))))).1, ((0 : Int), ())))
  else none)
  else none)
  else none)
  else none)
  else none
theorem r45 (p78 : DenS I78 → Bool) (f78 : DenS I78 → DenS O78) (p90 : DenS I90 → Bool) (f90 : DenS I90 → DenS O90) (p22 : DenS I22 → Bool) (f22 : DenS I22 → DenS O22) (p54 : DenS I54 → Bool) (f54 : DenS I54 → DenS O54) (p55 : DenS I55 → Bool) (f55 : DenS I55 → DenS O55) (a0 : Den (.int .i64)) :
    run { P := Go.Proofs.Tryd.prog, sums := [(78, ⟨I78, O78, p78, f78⟩), (90, ⟨I90, O90, p90, f90⟩), (22, ⟨I22, O22, p22, f22⟩), (54, ⟨I54, O54, p54, f54⟩), (55, ⟨I55, O55, p55, f55⟩)], loops := [], globs := G0 } 9 45 Go.Proofs.Tryd.f45 I45 O45 (a0, ()) = t45 p78 f78 p90 f90 p22 f22 p54 f54 p55 f55 a0 := by kernel_rfl
noncomputable def T45 (x : DenS I45) : Option (DenS O45) := t45 S78.pre S78.F S90.pre S90.F S22.pre S22.F S54.pre S54.F S55.pre S55.F x.1
noncomputable def C45 : Cfg := { P := Go.Proofs.Tryd.prog, sums := [(78, S78), (90, S90), (22, S22), (54, S54), (55, S55)], loops := [], globs := G0 }
noncomputable def S45 : Sum := sumOf I45 O45 T45 (DenS.dflt O45)
theorem S45_sound : Sound Go.Proofs.Tryd.prog G0 45 S45 :=
  fn_sound C45 9 45 Go.Proofs.Tryd.f45 mixedOk (by kernel_rfl) (by kernel_rfl) (by kernel_rfl) ⟨S78_sound, ⟨S90_sound, ⟨S22_sound, ⟨S54_sound, ⟨S55_sound, trivial⟩⟩⟩⟩⟩ trivial I45 O45 T45 _ fun x => r45 S78.pre S78.F S90.pre S90.F S22.pre S22.F S54.pre S54.F S55.pre S55.F x.1
/-- vernier/format.Neg -/
abbrev I49 : Sig := [(false, .int .i64), (false, .int .u64)]
abbrev O49 : Sig := [(false, .int .u64), (false, .int .i64)]
noncomputable def t49 (p48 : DenS I48 → Bool) (f48 : DenS I48 → DenS O48) (p64 : DenS I64 → Bool) (f64 : DenS I64 → DenS O64) (a0 : Den (.int .i64)) (a1 : Den (.int .u64)) : Option (DenS O49) :=
  bif (p48 (a0, (a1, ()))) then
  (bif ((f48 (a0, (a1, ()))).1 != (0 : Int)) then
  (some ((0 : Int), (f48 (a0, (a1, ())))))
  else bif (p64 (a0, ())) then
  (some ((Vx.xorI Go.IntKind.u64 a1 (f64 (a0, ())).1), ((0 : Int), ())))
  else none)
  else none
theorem r49 (p48 : DenS I48 → Bool) (f48 : DenS I48 → DenS O48) (p64 : DenS I64 → Bool) (f64 : DenS I64 → DenS O64) (a0 : Den (.int .i64)) (a1 : Den (.int .u64)) :
    run { P := Go.Proofs.Tryd.prog, sums := [(48, ⟨I48, O48, p48, f48⟩), (64, ⟨I64, O64, p64, f64⟩)], loops := [], globs := G0 } 9 49 Go.Proofs.Tryd.f49 I49 O49 (a0, a1, ()) = t49 p48 f48 p64 f64 a0 a1 := by kernel_rfl
noncomputable def T49 (x : DenS I49) : Option (DenS O49) := t49 S48.pre S48.F S64.pre S64.F x.1 x.2.1
noncomputable def C49 : Cfg := { P := Go.Proofs.Tryd.prog, sums := [(48, S48), (64, S64)], loops := [], globs := G0 }
noncomputable def S49 : Sum := sumOf I49 O49 T49 (DenS.dflt O49)
theorem S49_sound : Sound Go.Proofs.Tryd.prog G0 49 S49 :=
  fn_sound C49 9 49 Go.Proofs.Tryd.f49 mixedOk (by kernel_rfl) (by kernel_rfl) (by kernel_rfl) ⟨S48_sound, ⟨S64_sound, trivial⟩⟩ trivial I49 O49 T49 _ fun x => r49 S48.pre S48.F S64.pre S64.F x.1 x.2.1
/-- vernier/order.step -/
abbrev I89 : Sig := [(false, .int .i64), (false, .int .u64), (false, .int .i64)]
abbrev O89 : Sig := [(false, .int .u64), (false, .int .i64), (false, .int .i64)]
noncomputable def t89 (p52 : DenS I52 → Bool) (f52 : DenS I52 → DenS O52) (p42 : DenS I42 → Bool) (f42 : DenS I42 → DenS O42) (p45 : DenS I45 → Bool) (f45 : DenS I45 → DenS O45) (p43 : DenS I43 → Bool) (f43 : DenS I43 → DenS O43) (p49 : DenS I49 → Bool) (f49 : DenS I49 → DenS O49) (a0 : Den (.int .i64)) (a1 : Den (.int .u64)) (a2 : Den (.int .i64)) : Option (DenS O89) :=
  bif (p52 (a0, (a1, ()))) then
  (bif ((f52 (a0, (a1, ()))).2.1 != (0 : Int)) then
  (some ((0 : Int), ((0 : Int), (f52 (a0, (a1, ()))).2)))
  else bif (p42 ((f52 (a0, (a1, ()))).1, ())) then
  (bif (f42 ((f52 (a0, (a1, ()))).1, ())).1 then
  (bif (p45 (a0, ())) then
  (bif (p43 ((f52 (a0, (a1, ()))).1, ((f52 (a0, (a1, ()))).1, ()))) then
  (some ((f45 (a0, ())).1, ((f43 ((f52 (a0, (a1, ()))).1, ((f52 (a0, (a1, ()))).1, ()))).1, ((0 : Int), ()))))
  else none)
  else none)
  else bif ((((f52 (a0, (a1, ()))).1.1 == (9 : Int)) && (decide (a2 > (0 : Int)))) || (((f52 (a0, (a1, ()))).1.1 == (2 : Int)) && (decide (a2 < (0 : Int))))) then
  (some (a1, ((0 : Int), ((0 : Int), ()))))
  else bif ((decide ((Go.IntKind.wrap Go.IntKind.i64 ((f52 (a0, (a1, ()))).1.2.1 + a2)) > (0 : Int))) || (((Go.IntKind.wrap Go.IntKind.i64 ((f52 (a0, (a1, ()))).1.2.1 + a2)) == (0 : Int)) && (decide (a2 < (0 : Int))))) then
  (some ((Go.IntKind.wrap Go.IntKind.u64 (Go.IntKind.wrap Go.IntKind.i64 ((f52 (a0, (a1, ()))).1.2.1 + a2))), ((0 : Int), ((0 : Int), ()))))
  else bif (p49 (a0, ((Go.IntKind.wrap Go.IntKind.u64 (Go.IntKind.wrap Go.IntKind.i64 ((0 : Int) - (Go.IntKind.wrap Go.IntKind.i64 ((f52 (a0, (a1, ()))).1.2.1 + a2))))), ()))) then
  (some ((f49 (a0, ((Go.IntKind.wrap Go.IntKind.u64 (Go.IntKind.wrap Go.IntKind.i64 ((0 : Int) - (Go.IntKind.wrap Go.IntKind.i64 ((f52 (a0, (a1, ()))).1.2.1 + a2))))), ()))).1, ((0 : Int), (f49 (a0, ((Go.IntKind.wrap Go.IntKind.u64 (Go.IntKind.wrap Go.IntKind.i64 ((0 : Int) - (Go.IntKind.wrap Go.IntKind.i64 ((f52 (a0, (a1, ()))).1.2.1 + a2))))), ()))).2)))
  else none)
  else none)
  else none
theorem r89 (p52 : DenS I52 → Bool) (f52 : DenS I52 → DenS O52) (p42 : DenS I42 → Bool) (f42 : DenS I42 → DenS O42) (p45 : DenS I45 → Bool) (f45 : DenS I45 → DenS O45) (p43 : DenS I43 → Bool) (f43 : DenS I43 → DenS O43) (p49 : DenS I49 → Bool) (f49 : DenS I49 → DenS O49) (a0 : Den (.int .i64)) (a1 : Den (.int .u64)) (a2 : Den (.int .i64)) :
    run { P := Go.Proofs.Tryd.prog, sums := [(52, ⟨I52, O52, p52, f52⟩), (42, ⟨I42, O42, p42, f42⟩), (45, ⟨I45, O45, p45, f45⟩), (43, ⟨I43, O43, p43, f43⟩), (49, ⟨I49, O49, p49, f49⟩)], loops := [], globs := G0 } 9 89 Go.Proofs.Tryd.f89 I89 O89 (a0, a1, a2, ()) = t89 p52 f52 p42 f42 p45 f45 p43 f43 p49 f49 a0 a1 a2 := by kernel_rfl
noncomputable def T89 (x : DenS I89) : Option (DenS O89) := t89 S52.pre S52.F S42.pre S42.F S45.pre S45.F S43.pre S43.F S49.pre S49.F x.1 x.2.1 x.2.2.1
noncomputable def C89 : Cfg := { P := Go.Proofs.Tryd.prog, sums := [(52, S52), (42, S42), (45, S45), (43, S43), (49, S49)], loops := [], globs := G0 }
noncomputable def S89 : Sum := sumOf I89 O89 T89 (DenS.dflt O89)
theorem S89_sound : Sound Go.Proofs.Tryd.prog G0 89 S89 :=
  fn_sound C89 9 89 Go.Proofs.Tryd.f89 mixedOk (by kernel_rfl) (by kernel_rfl) (by kernel_rfl) ⟨S52_sound, ⟨S42_sound, ⟨S45_sound, ⟨S43_sound, ⟨S49_sound, trivial⟩⟩⟩⟩⟩ trivial I89 O89 T89 _ fun x => r89 S52.pre S52.F S42.pre S42.F S45.pre S45.F S43.pre S43.F S49.pre S49.F x.1 x.2.1 x.2.2.1
/-- vernier/order.NextUp -/
abbrev I44 : Sig := [(false, .int .i64), (false, .int .u64)]
abbrev O44 : Sig := [(false, .int .u64), (false, .int .i64), (false, .int .i64)]
noncomputable def t44 (p89 : DenS I89 → Bool) (f89 : DenS I89 → DenS O89) (a0 : Den (.int .i64)) (a1 : Den (.int .u64)) : Option (DenS O44) :=
  bif (p89 (a0, (a1, ((1 : Int), ())))) then
  (some (f89 (a0, (a1, ((1 : Int), ())))))
  else none
theorem r44 (p89 : DenS I89 → Bool) (f89 : DenS I89 → DenS O89) (a0 : Den (.int .i64)) (a1 : Den (.int .u64)) :
    run { P := Go.Proofs.Tryd.prog, sums := [(89, ⟨I89, O89, p89, f89⟩)], loops := [], globs := G0 } 9 44 Go.Proofs.Tryd.f44 I44 O44 (a0, a1, ()) = t44 p89 f89 a0 a1 := by kernel_rfl
noncomputable def T44 (x : DenS I44) : Option (DenS O44) := t44 S89.pre S89.F x.1 x.2.1
noncomputable def C44 : Cfg := { P := Go.Proofs.Tryd.prog, sums := [(89, S89)], loops := [], globs := G0 }
noncomputable def S44 : Sum := sumOf I44 O44 T44 (DenS.dflt O44)
theorem S44_sound : Sound Go.Proofs.Tryd.prog G0 44 S44 :=
  fn_sound C44 9 44 Go.Proofs.Tryd.f44 mixedOk (by kernel_rfl) (by kernel_rfl) (by kernel_rfl) ⟨S89_sound, trivial⟩ trivial I44 O44 T44 _ fun x => r44 S89.pre S89.F x.1 x.2.1
/-- vernier/vernierlaw13.fixed -/
abbrev I12 : Sig := []
abbrev O12 : Sig := [(false, .bool)]
noncomputable def t12 (p11 : DenS I11 → Bool) (f11 : DenS I11 → DenS O11) (p44 : DenS I44 → Bool) (f44 : DenS I44 → DenS O44) : Option (DenS O12) :=
  bif (p11 ((0 : Int), ((32256 : Int), ((0 : Int), (true, ()))))) then
  (bif (p44 ((0 : Int), ((32769 : Int), ()))) then
  (some ((((((((f11 ((0 : Int), ((32256 : Int), ((0 : Int), (true, ()))))).1 == (3 : Int)) && ((f11 ((0 : Int), ((32256 : Int), ((0 : Int), (true, ()))))).2.1 == (1 : Int))) && ((f11 ((0 : Int), ((32256 : Int), ((0 : Int), (true, ()))))).2.2.1 == (0 : Int))) && ((f44 ((0 : Int), ((32769 : Int), ()))).1 == (32768 : Int))) && ((f44 ((0 : Int), ((32769 : Int), ()))).2.1 == (0 : Int))) && ((f44 ((0 : Int), ((32769 : Int), ()))).2.2.1 == (0 : Int))), ()))
  else none)
  else none
theorem r12 (p11 : DenS I11 → Bool) (f11 : DenS I11 → DenS O11) (p44 : DenS I44 → Bool) (f44 : DenS I44 → DenS O44) :
    run { P := Go.Proofs.Tryd.prog, sums := [(11, ⟨I11, O11, p11, f11⟩), (44, ⟨I44, O44, p44, f44⟩)], loops := [], globs := G0 } 9 12 Go.Proofs.Tryd.f12 I12 O12 (()) = t12 p11 f11 p44 f44 := by kernel_rfl
noncomputable def T12 (x : DenS I12) : Option (DenS O12) := t12 S11.pre S11.F S44.pre S44.F
noncomputable def C12 : Cfg := { P := Go.Proofs.Tryd.prog, sums := [(11, S11), (44, S44)], loops := [], globs := G0 }
noncomputable def S12 : Sum := sumOf I12 O12 T12 (DenS.dflt O12)
theorem S12_sound : Sound Go.Proofs.Tryd.prog G0 12 S12 :=
  fn_sound C12 9 12 Go.Proofs.Tryd.f12 mixedOk (by kernel_rfl) (by kernel_rfl) (by kernel_rfl) ⟨S11_sound, ⟨S44_sound, trivial⟩⟩ trivial I12 O12 T12 _ fun x => r12 S11.pre S11.F S44.pre S44.F
/-- math.Float64frombits -/
abbrev I14 : Sig := [(false, .int .u64)]
abbrev O14 : Sig := [(false, .flt .f64)]
noncomputable def S14 : Sum := fromSum .f64
theorem S14_sound : Sound Go.Proofs.Tryd.prog G0 14 S14 := from_sound (e := Go.Extern.MathFloatBits.float64frombits) .f64 Go.Proofs.Tryd.func14 (by kernel_rfl) (by kernel_rfl) (by kernel_rfl) (by kernel_rfl) (fun _ => rfl)
/-- vernier/vernierlaw13.relation[float64] -/
abbrev I13 : Sig := [(false, .flt .f64), (false, .flt .f64)]
abbrev O13 : Sig := [(false, .int .i64)]
noncomputable def t13 (a0 : Den (.flt .f64)) (a1 : Den (.flt .f64)) : Option (DenS O13) :=
  bif ((Vx.flord Go.FloatKind.f64 a0 a1) == (some Ordering.lt)) then
  (some ((0 : Int), ()))
  else bif ((Vx.flord Go.FloatKind.f64 a0 a1) == (some Ordering.eq)) then
  (some ((1 : Int), ()))
  else bif ((Vx.flord Go.FloatKind.f64 a0 a1) == (some Ordering.gt)) then
  (some ((2 : Int), ()))
  else some ((3 : Int), ())
theorem r13 (a0 : Den (.flt .f64)) (a1 : Den (.flt .f64)) :
    run { P := Go.Proofs.Tryd.prog, sums := [], loops := [], globs := G0 } 9 13 Go.Proofs.Tryd.f13 I13 O13 (a0, a1, ()) = t13 a0 a1 := by kernel_rfl
noncomputable def T13 (x : DenS I13) : Option (DenS O13) := t13 x.1 x.2.1
noncomputable def C13 : Cfg := { P := Go.Proofs.Tryd.prog, sums := [], loops := [], globs := G0 }
noncomputable def S13 : Sum := sumOf I13 O13 T13 (DenS.dflt O13)
theorem S13_sound : Sound Go.Proofs.Tryd.prog G0 13 S13 :=
  fn_sound C13 9 13 Go.Proofs.Tryd.f13 mixedOk (by kernel_rfl) (by kernel_rfl) (by kernel_rfl) trivial trivial I13 O13 T13 _ fun x => r13 x.1 x.2.1
/-- math.Float32frombits -/
abbrev I16 : Sig := [(false, .int .u32)]
abbrev O16 : Sig := [(false, .flt .f32)]
noncomputable def S16 : Sum := fromSum .f32
theorem S16_sound : Sound Go.Proofs.Tryd.prog G0 16 S16 := from_sound (e := Go.Extern.MathFloatBits.float32frombits) .f32 Go.Proofs.Tryd.func16 (by kernel_rfl) (by kernel_rfl) (by kernel_rfl) (by kernel_rfl) (fun _ => rfl)
/-- vernier/vernierlaw13.relation[float32] -/
abbrev I15 : Sig := [(false, .flt .f32), (false, .flt .f32)]
abbrev O15 : Sig := [(false, .int .i64)]
noncomputable def t15 (a0 : Den (.flt .f32)) (a1 : Den (.flt .f32)) : Option (DenS O15) :=
  bif ((Vx.flord Go.FloatKind.f32 a0 a1) == (some Ordering.lt)) then
  (some ((0 : Int), ()))
  else bif ((Vx.flord Go.FloatKind.f32 a0 a1) == (some Ordering.eq)) then
  (some ((1 : Int), ()))
  else bif ((Vx.flord Go.FloatKind.f32 a0 a1) == (some Ordering.gt)) then
  (some ((2 : Int), ()))
  else some ((3 : Int), ())
theorem r15 (a0 : Den (.flt .f32)) (a1 : Den (.flt .f32)) :
    run { P := Go.Proofs.Tryd.prog, sums := [], loops := [], globs := G0 } 9 15 Go.Proofs.Tryd.f15 I15 O15 (a0, a1, ()) = t15 a0 a1 := by kernel_rfl
noncomputable def T15 (x : DenS I15) : Option (DenS O15) := t15 x.1 x.2.1
noncomputable def C15 : Cfg := { P := Go.Proofs.Tryd.prog, sums := [], loops := [], globs := G0 }
noncomputable def S15 : Sum := sumOf I15 O15 T15 (DenS.dflt O15)
theorem S15_sound : Sound Go.Proofs.Tryd.prog G0 15 S15 :=
  fn_sound C15 9 15 Go.Proofs.Tryd.f15 mixedOk (by kernel_rfl) (by kernel_rfl) (by kernel_rfl) trivial trivial I15 O15 T15 _ fun x => r15 x.1 x.2.1
/-- vernier/vernierlaw13.OrderMachine -/
abbrev I3 : Sig := [(false, .int .u64), (false, .int .u64)]
abbrev O3 : Sig := [(false, .bool)]
noncomputable def t3 (p11 : DenS I11 → Bool) (f11 : DenS I11 → DenS O11) (p12 : DenS I12 → Bool) (f12 : DenS I12 → DenS O12) (p14 : DenS I14 → Bool) (f14 : DenS I14 → DenS O14) (p13 : DenS I13 → Bool) (f13 : DenS I13 → DenS O13) (p16 : DenS I16 → Bool) (f16 : DenS I16 → DenS O16) (p15 : DenS I15 → Bool) (f15 : DenS I15 → DenS O15) (a0 : Den (.int .u64)) (a1 : Den (.int .u64)) : Option (DenS O3) :=
  bif (p11 ((3 : Int), (a0, (a1, (false, ()))))) then
  (bif (p11 ((2 : Int), ((Go.IntKind.wrap Go.IntKind.u64 (Go.IntKind.wrap Go.IntKind.u32 a0)), ((Go.IntKind.wrap Go.IntKind.u64 (Go.IntKind.wrap Go.IntKind.u32 a1)), (true, ()))))) then
  (bif (p12 ()) then
  (bif (((!(f12 ()).1) || ((f11 ((3 : Int), (a0, (a1, (false, ()))))).2.2.1 != (0 : Int))) || ((f11 ((2 : Int), ((Go.IntKind.wrap Go.IntKind.u64 (Go.IntKind.wrap Go.IntKind.u32 a0)), ((Go.IntKind.wrap Go.IntKind.u64 (Go.IntKind.wrap Go.IntKind.u32 a1)), (true, ()))))).2.2.1 != (0 : Int))) then
  (some (false, ()))
  else bif (p14 (a0, ())) then
  (bif (p14 (a1, ())) then
  (bif (p13 ((f14 (a0, ())).1, (f14 (a1, ())))) then
  (bif ((p16 ((Go.IntKind.wrap Go.IntKind.u32 a0), ())) || (!(decide ((f11 ((3 : Int), (a0, (a1, (false, ()))))).1 = (f13 ((f14 (a0, ())).1, (f14 (a1, ())))).1)))) then
  (bif ((p16 ((Go.IntKind.wrap Go.IntKind.u32 a1), ())) || (!(decide ((f11 ((3 : Int), (a0, (a1, (false, ()))))).1 = (f13 ((f14 (a0, ())).1, (f14 (a1, ())))).1)))) then
  (bif ((p15 ((f16 ((Go.IntKind.wrap Go.IntKind.u32 a0), ())).1, (f16 ((Go.IntKind.wrap Go.IntKind.u32 a1), ())))) || (!(decide ((f11 ((3 : Int), (a0, (a1, (false, ()))))).1 = (f13 ((f14 (a0, ())).1, (f14 (a1, ())))).1)))) then
  (some ((((f11 ((3 : Int), (a0, (a1, (false, ()))))).1 == (f13 ((f14 (a0, ())).1, (f14 (a1, ())))).1) && ((f11 ((2 : Int), ((Go.IntKind.wrap Go.IntKind.u64 (Go.IntKind.wrap Go.IntKind.u32 a0)), ((Go.IntKind.wrap Go.IntKind.u64 (Go.IntKind.wrap Go.IntKind.u32 a1)), (true, ()))))).1 == (f15 ((f16 ((Go.IntKind.wrap Go.IntKind.u32 a0), ())).1, (f16 ((Go.IntKind.wrap Go.IntKind.u32 a1), ())))).1)), ()))
  else none)
  else none)
  else none)
  else none)
  else none)
  else none)
  else none)
  else none)
  else none
theorem r3 (p11 : DenS I11 → Bool) (f11 : DenS I11 → DenS O11) (p12 : DenS I12 → Bool) (f12 : DenS I12 → DenS O12) (p14 : DenS I14 → Bool) (f14 : DenS I14 → DenS O14) (p13 : DenS I13 → Bool) (f13 : DenS I13 → DenS O13) (p16 : DenS I16 → Bool) (f16 : DenS I16 → DenS O16) (p15 : DenS I15 → Bool) (f15 : DenS I15 → DenS O15) (a0 : Den (.int .u64)) (a1 : Den (.int .u64)) :
    run { P := Go.Proofs.Tryd.prog, sums := [(11, ⟨I11, O11, p11, f11⟩), (12, ⟨I12, O12, p12, f12⟩), (14, ⟨I14, O14, p14, f14⟩), (13, ⟨I13, O13, p13, f13⟩), (16, ⟨I16, O16, p16, f16⟩), (15, ⟨I15, O15, p15, f15⟩)], loops := [], globs := G0 } 9 3 Go.Proofs.Tryd.f3 I3 O3 (a0, a1, ()) = t3 p11 f11 p12 f12 p14 f14 p13 f13 p16 f16 p15 f15 a0 a1 := by kernel_rfl
noncomputable def T3 (x : DenS I3) : Option (DenS O3) := t3 S11.pre S11.F S12.pre S12.F S14.pre S14.F S13.pre S13.F S16.pre S16.F S15.pre S15.F x.1 x.2.1
noncomputable def C3 : Cfg := { P := Go.Proofs.Tryd.prog, sums := [(11, S11), (12, S12), (14, S14), (13, S13), (16, S16), (15, S15)], loops := [], globs := G0 }
noncomputable def S3 : Sum := sumOf I3 O3 T3 (DenS.dflt O3)
theorem S3_sound : Sound Go.Proofs.Tryd.prog G0 3 S3 :=
  fn_sound C3 9 3 Go.Proofs.Tryd.f3 mixedOk (by kernel_rfl) (by kernel_rfl) (by kernel_rfl) ⟨S11_sound, ⟨S12_sound, ⟨S14_sound, ⟨S13_sound, ⟨S16_sound, ⟨S15_sound, trivial⟩⟩⟩⟩⟩⟩ trivial I3 O3 T3 _ fun x => r3 S11.pre S11.F S12.pre S12.F S14.pre S14.F S13.pre S13.F S16.pre S16.F S15.pre S15.F x.1 x.2.1
end Vx
namespace Vx
open Go Go.Proofs
/-- vernier/addsub.Add -/
abbrev I18 : Sig := [(false, .int .i64), (false, .int .i64), (false, .int .u64), (false, .int .u64)]
abbrev O18 : Sig := [(false, .int .u64), (false, .int .i64), (false, .int .i64)]
/-- vernier/addsub.Sub -/
abbrev I19 : Sig := [(false, .int .i64), (false, .int .i64), (false, .int .u64), (false, .int .u64)]
abbrev O19 : Sig := [(false, .int .u64), (false, .int .i64), (false, .int .i64)]
/-- vernier/vernierlaw06.awake -/
abbrev I17 : Sig := []
abbrev O17 : Sig := [(false, .bool)]
/-- vernier/vernierlaw06.told -/
abbrev I20 : Sig := [(false, .flt .f64)]
abbrev O20 : Sig := [(false, .int .u64)]
/-- vernier/vernierlaw06.told32 -/
abbrev I21 : Sig := [(false, .flt .f32)]
abbrev O21 : Sig := [(false, .int .u64)]
abbrev O4 : Sig := [(false, .bool)]
noncomputable def t4 (p17 : DenS I17 → Bool) (f17 : DenS I17 → DenS O17) (p14 : DenS I14 → Bool) (f14 : DenS I14 → DenS O14) (p20 : DenS I20 → Bool) (f20 : DenS I20 → DenS O20) (p16 : DenS I16 → Bool) (f16 : DenS I16 → DenS O16) (p18 : DenS I18 → Bool) (f18 : DenS I18 → DenS O18) (p19 : DenS I19 → Bool) (f19 : DenS I19 → DenS O19) (p21 : DenS I21 → Bool) (f21 : DenS I21 → DenS O21) (a0 : Den (.int .u64)) (a1 : Den (.int .u64)) : Option (DenS O4) :=
  bif (p17 ()) then
  (bif (!(f17 ()).1) then
  (some (false, ()))
  else bif (p14 (a0, ())) then
  (bif (p14 (a1, ())) then
  (bif (p18 ((3 : Int), ((0 : Int), (a0, (a1, ()))))) then
  (bif (p19 ((3 : Int), ((0 : Int), (a0, (a1, ()))))) then
  (bif ((p20 ((Vx.flop Go.BinOp.add Go.FloatKind.f64 (f14 (a0, ())).1 (f14 (a1, ())).1), ())) || (!(bif (((f18 ((3 : Int), ((0 : Int), (a0, (a1, ()))))).2.2.1 != (0 : Int)) || ((f19 ((3 : Int), ((0 : Int), (a0, (a1, ()))))).2.2.1 != (0 : Int))) then false else true))) then
  (bif ((p20 ((Vx.flop Go.BinOp.sub Go.FloatKind.f64 (f14 (a0, ())).1 (f14 (a1, ())).1), ())) || (!(bif ((((f18 ((3 : Int), ((0 : Int), (a0, (a1, ()))))).2.2.1 != (0 : Int)) || ((f19 ((3 : Int), ((0 : Int), (a0, (a1, ()))))).2.2.1 != (0 : Int))) || ((f18 ((3 : Int), ((0 : Int), (a0, (a1, ()))))).1 != (f20 ((Vx.flop Go.BinOp.add Go.FloatKind.f64 (f14 (a0, ())).1 (f14 (a1, ())).1), ())).1)) then false else true))) then
  (bif (((((f18 ((3 : Int), ((0 : Int), (a0, (a1, ()))))).2.2.1 != (0 : Int)) || ((f19 ((3 : Int), ((0 : Int), (a0, (a1, ()))))).2.2.1 != (0 : Int))) || ((f18 ((3 : Int), ((0 : Int), (a0, (a1, ()))))).1 != (f20 ((Vx.flop Go.BinOp.add Go.FloatKind.f64 (f14 (a0, ())).1 (f14 (a1, ())).1), ())).1)) || ((f19 ((3 : Int), ((0 : Int), (a0, (a1, ()))))).1 != (f20 ((Vx.flop Go.BinOp.sub Go.FloatKind.f64 (f14 (a0, ())).1 (f14 (a1, ())).1), ())).1)) then
  (some (false, ()))
  else bif (p16 ((Go.IntKind.wrap Go.IntKind.u32 (Int.tmod a0 (4294967296 : Int))), ())) then
  (bif (p16 ((Go.IntKind.wrap Go.IntKind.u32 (Int.tmod a1 (4294967296 : Int))), ())) then
  (bif (p18 ((2 : Int), ((0 : Int), ((Int.tmod a0 (4294967296 : Int)), ((Int.tmod a1 (4294967296 : Int)), ()))))) then
  (bif (p19 ((2 : Int), ((0 : Int), ((Int.tmod a0 (4294967296 : Int)), ((Int.tmod a1 (4294967296 : Int)), ()))))) then
  (bif ((p21 ((Vx.flop Go.BinOp.add Go.FloatKind.f32 (f16 ((Go.IntKind.wrap Go.IntKind.u32 (Int.tmod a0 (4294967296 : Int))), ())).1 (f16 ((Go.IntKind.wrap Go.IntKind.u32 (Int.tmod a1 (4294967296 : Int))), ())).1), ())) || (!(bif ((f18 ((2 : Int), ((0 : Int), ((Int.tmod a0 (4294967296 : Int)), ((Int.tmod a1 (4294967296 : Int)), ()))))).2.2.1 == (0 : Int)) then ((f19 ((2 : Int), ((0 : Int), ((Int.tmod a0 (4294967296 : Int)), ((Int.tmod a1 (4294967296 : Int)), ()))))).2.2.1 == (0 : Int)) else false))) then
  (bif ((p21 ((Vx.flop Go.BinOp.sub Go.FloatKind.f32 (f16 ((Go.IntKind.wrap Go.IntKind.u32 (Int.tmod a0 (4294967296 : Int))), ())).1 (f16 ((Go.IntKind.wrap Go.IntKind.u32 (Int.tmod a1 (4294967296 : Int))), ())).1), ())) || (!(bif (((f18 ((2 : Int), ((0 : Int), ((Int.tmod a0 (4294967296 : Int)), ((Int.tmod a1 (4294967296 : Int)), ()))))).2.2.1 == (0 : Int)) && ((f19 ((2 : Int), ((0 : Int), ((Int.tmod a0 (4294967296 : Int)), ((Int.tmod a1 (4294967296 : Int)), ()))))).2.2.1 == (0 : Int))) then ((f18 ((2 : Int), ((0 : Int), ((Int.tmod a0 (4294967296 : Int)), ((Int.tmod a1 (4294967296 : Int)), ()))))).1 == (f21 ((Vx.flop Go.BinOp.add Go.FloatKind.f32 (f16 ((Go.IntKind.wrap Go.IntKind.u32 (Int.tmod a0 (4294967296 : Int))), ())).1 (f16 ((Go.IntKind.wrap Go.IntKind.u32 (Int.tmod a1 (4294967296 : Int))), ())).1), ())).1) else false))) then
  (some ((((((f18 ((2 : Int), ((0 : Int), ((Int.tmod a0 (4294967296 : Int)), ((Int.tmod a1 (4294967296 : Int)), ()))))).2.2.1 == (0 : Int)) && ((f19 ((2 : Int), ((0 : Int), ((Int.tmod a0 (4294967296 : Int)), ((Int.tmod a1 (4294967296 : Int)), ()))))).2.2.1 == (0 : Int))) && ((f18 ((2 : Int), ((0 : Int), ((Int.tmod a0 (4294967296 : Int)), ((Int.tmod a1 (4294967296 : Int)), ()))))).1 == (f21 ((Vx.flop Go.BinOp.add Go.FloatKind.f32 (f16 ((Go.IntKind.wrap Go.IntKind.u32 (Int.tmod a0 (4294967296 : Int))), ())).1 (f16 ((Go.IntKind.wrap Go.IntKind.u32 (Int.tmod a1 (4294967296 : Int))), ())).1), ())).1)) && ((f19 ((2 : Int), ((0 : Int), ((Int.tmod a0 (4294967296 : Int)), ((Int.tmod a1 (4294967296 : Int)), ()))))).1 == (f21 ((Vx.flop Go.BinOp.sub Go.FloatKind.f32 (f16 ((Go.IntKind.wrap Go.IntKind.u32 (Int.tmod a0 (4294967296 : Int))), ())).1 (f16 ((Go.IntKind.wrap Go.IntKind.u32 (Int.tmod a1 (4294967296 : Int))), ())).1), ())).1)), ()))
  else none)
  else none)
  else none)
  else none)
  else none)
  else none)
  else none)
  else none)
  else none)
  else none)
  else none)
  else none)
  else none
end Vx
namespace Vx
open Go
theorem sum_pre {I O : Sig} {T : DenS I → Option (DenS O)} {d : DenS O} {x : DenS I} {y : DenS O} (h : T x = some y) : (sumOf I O T d).pre x = true := by
  show (T x).isSome = true
  rw [h]; rfl
theorem sum_F {I O : Sig} {T : DenS I → Option (DenS O)} {d : DenS O} {x : DenS I} {y : DenS O} (h : T x = some y) : (sumOf I O T d).F x = y := by
  show (T x).getD d = y
  rw [h]; rfl
theorem pre22 {x : DenS I22} {y : DenS O22} (h : T22 x = some y) : S22.pre x = true := sum_pre (T := T22) h
theorem fun22 {x : DenS I22} {y : DenS O22} (h : T22 x = some y) : S22.F x = y := sum_F (T := T22) h
theorem pre48 {x : DenS I48} {y : DenS O48} (h : T48 x = some y) : S48.pre x = true := sum_pre (T := T48) h
theorem fun48 {x : DenS I48} {y : DenS O48} (h : T48 x = some y) : S48.F x = y := sum_F (T := T48) h
theorem pre54 {x : DenS I54} {y : DenS O54} (h : T54 x = some y) : S54.pre x = true := sum_pre (T := T54) h
theorem fun54 {x : DenS I54} {y : DenS O54} (h : T54 x = some y) : S54.F x = y := sum_F (T := T54) h
theorem pre63 {x : DenS I63} {y : DenS O63} (h : T63 x = some y) : S63.pre x = true := sum_pre (T := T63) h
theorem fun63 {x : DenS I63} {y : DenS O63} (h : T63 x = some y) : S63.F x = y := sum_F (T := T63) h
theorem pre26 {x : DenS I26} {y : DenS O26} (h : T26 x = some y) : S26.pre x = true := sum_pre (T := T26) h
theorem fun26 {x : DenS I26} {y : DenS O26} (h : T26 x = some y) : S26.F x = y := sum_F (T := T26) h
theorem pre64 {x : DenS I64} {y : DenS O64} (h : T64 x = some y) : S64.pre x = true := sum_pre (T := T64) h
theorem fun64 {x : DenS I64} {y : DenS O64} (h : T64 x = some y) : S64.F x = y := sum_F (T := T64) h
theorem pre28 {x : DenS I28} {y : DenS O28} (h : T28 x = some y) : S28.pre x = true := sum_pre (T := T28) h
theorem fun28 {x : DenS I28} {y : DenS O28} (h : T28 x = some y) : S28.F x = y := sum_F (T := T28) h
theorem pre52 {x : DenS I52} {y : DenS O52} (h : T52 x = some y) : S52.pre x = true := sum_pre (T := T52) h
theorem fun52 {x : DenS I52} {y : DenS O52} (h : T52 x = some y) : S52.F x = y := sum_F (T := T52) h
theorem pre41 {x : DenS I41} {y : DenS O41} (h : T41 x = some y) : S41.pre x = true := sum_pre (T := T41) h
theorem fun41 {x : DenS I41} {y : DenS O41} (h : T41 x = some y) : S41.F x = y := sum_F (T := T41) h
theorem pre42 {x : DenS I42} {y : DenS O42} (h : T42 x = some y) : S42.pre x = true := sum_pre (T := T42) h
theorem fun42 {x : DenS I42} {y : DenS O42} (h : T42 x = some y) : S42.F x = y := sum_F (T := T42) h
theorem pre43 {x : DenS I43} {y : DenS O43} (h : T43 x = some y) : S43.pre x = true := sum_pre (T := T43) h
theorem fun43 {x : DenS I43} {y : DenS O43} (h : T43 x = some y) : S43.F x = y := sum_F (T := T43) h
theorem pre11 {x : DenS I11} {y : DenS O11} (h : T11 x = some y) : S11.pre x = true := sum_pre (T := T11) h
theorem fun11 {x : DenS I11} {y : DenS O11} (h : T11 x = some y) : S11.F x = y := sum_F (T := T11) h
theorem pre12 {x : DenS I12} {y : DenS O12} (h : T12 x = some y) : S12.pre x = true := sum_pre (T := T12) h
theorem fun12 {x : DenS I12} {y : DenS O12} (h : T12 x = some y) : S12.F x = y := sum_F (T := T12) h
theorem pre13 {x : DenS I13} {y : DenS O13} (h : T13 x = some y) : S13.pre x = true := sum_pre (T := T13) h
theorem fun13 {x : DenS I13} {y : DenS O13} (h : T13 x = some y) : S13.F x = y := sum_F (T := T13) h
theorem pre15 {x : DenS I15} {y : DenS O15} (h : T15 x = some y) : S15.pre x = true := sum_pre (T := T15) h
theorem fun15 {x : DenS I15} {y : DenS O15} (h : T15 x = some y) : S15.F x = y := sum_F (T := T15) h
end Vx
namespace Vx
open Go
theorem t12_true : T12 () = some (true, ()) := by kernel_rfl
theorem shrI_u64 {a : Int} (n : Nat) (hn : n ≤ 64) : shrI .u64 a (n : Int) = a / 2 ^ n := by
  unfold shrI
  rw [Int.fdiv_eq_ediv_of_nonneg]
  · congr 2
    simp [IntKind.bits]
    omega
  · exact Int.pow_nonneg (by omega)
theorem ofInt_u64 {m : Nat} (h : m < 2 ^ 64) : (BitVec.ofInt 64 (m : Int)).toNat = m := by
  rw [BitVec.toNat_ofInt]
  omega
theorem andI_mask {m n : Nat} (h : m < 2 ^ 64) (hn : n ≤ 64) : andI .u64 (m : Int) ((2 ^ n - 1 : Nat) : Int) = ((m % 2 ^ n : Nat) : Int) := by
  have h2 : 2 ^ n ≤ 2 ^ 64 := Nat.pow_le_pow_right (by omega) hn
  have h3 : 0 < 2 ^ n := Nat.two_pow_pos n
  have hlt : m % 2 ^ n < 2 ^ n := Nat.mod_lt _ h3
  have key : (BitVec.ofInt 64 (m : Int) &&& BitVec.ofInt 64 ((2 ^ n - 1 : Nat) : Int)).toNat = m % 2 ^ n := by
    rw [BitVec.toNat_and, ofInt_u64 h, ofInt_u64 (by omega), Nat.and_two_pow_sub_one_eq_mod]
  show IntKind.u64.wrap (((BitVec.ofInt 64 (m : Int) &&& BitVec.ofInt 64 ((2 ^ n - 1 : Nat) : Int)).toNat : Nat) : Int) = _
  rw [key]
  exact IntWalk.u64_in _ (by omega)
theorem shlI_one {n : Nat} (hn : n ≤ 63) : shlI .u64 1 (n : Int) = ((2 ^ n : Nat) : Int) := by
  have h2 : 2 ^ n ≤ 2 ^ 63 := Nat.pow_le_pow_right (by omega) hn
  have : (min (n : Int).toNat IntKind.u64.bits) = n := by simp [IntKind.bits]; omega
  unfold shlI
  rw [this, Int.one_mul]
  have e : (2 : Int) ^ n = ((2 ^ n : Nat) : Int) := by simp
  rw [e]
  refine IntWalk.u64_in _ ⟨Int.natCast_nonneg _, ?_⟩
  have : ((2 ^ n : Nat) : Int) ≤ ((2 ^ 63 : Nat) : Int) := Int.ofNat_le.2 h2
  exact Int.le_trans this (by decide)
theorem andNotI_bit {m n : Nat} (hn : n ≤ 63) (h : m < 2 ^ (n + 1)) : andNotI .u64 (m : Int) ((2 ^ n : Nat) : Int) = ((m % 2 ^ n : Nat) : Int) := by
  have h1 : 2 ^ (n + 1) ≤ 2 ^ 64 := Nat.pow_le_pow_right (by omega) (by omega)
  have h2 : 2 ^ n < 2 ^ 64 := Nat.pow_lt_pow_right (by omega) (by omega)
  have hlt : m % 2 ^ n < 2 ^ n := Nat.mod_lt _ (Nat.two_pow_pos n)
  have key : (BitVec.ofInt 64 (m : Int) &&& ~~~(BitVec.ofInt 64 ((2 ^ n : Nat) : Int))).toNat = m % 2 ^ n := by
    apply Nat.eq_of_testBit_eq
    intro i
    rw [BitVec.toNat_and, Nat.testBit_and, ofInt_u64 (by omega), Nat.testBit_mod_two_pow]
    have e : (~~~(BitVec.ofInt 64 ((2 ^ n : Nat) : Int))).toNat.testBit i = (decide (i < 64) && !decide (n = i)) := by
      rw [← BitVec.getLsbD, BitVec.getLsbD_not, BitVec.getLsbD, ofInt_u64 h2, Nat.testBit_two_pow]
    rw [e]
    rcases Nat.lt_trichotomy i n with hi | hi | hi
    · have : i < 64 := by omega
      have hne : ¬ n = i := by omega
      simp [this, hne, hi]
    · subst hi; simp
    · have hz : m.testBit i = false := Nat.testBit_lt_two_pow (Nat.lt_of_lt_of_le h (Nat.pow_le_pow_right (by omega) (by omega)))
      simp [hz]
  show IntKind.u64.wrap (((BitVec.ofInt 64 (m : Int) &&& ~~~(BitVec.ofInt 64 ((2 ^ n : Nat) : Int))).toNat : Nat) : Int) = _
  rw [key]
  exact IntWalk.u64_in _ (by omega)
end Vx
namespace VL
open Go Vx
def Fm (f : Int) : Prop := 0 ≤ f ∧ f < 4
instance (f : Int) : Decidable (Fm f) := by unfold Fm; infer_instance
def fW (f : Int) : Nat := if f = 0 then 16 else if f = 1 then 16 else if f = 2 then 32 else 64
def fP (f : Int) : Nat := if f = 0 then 11 else if f = 1 then 8 else if f = 2 then 24 else 53
def fX (f : Int) : Nat := if f = 0 then 15 else if f = 1 then 127 else if f = 2 then 127 else 1023
def rowOf (f : Int) : Den rowsSh := ((fW f : Int), ((fP f : Int), ((1 - (fX f : Int)), ((fX f : Int), ()))))
theorem Fm_cases {f : Int} (h : Fm f) : f = 0 ∨ f = 1 ∨ f = 2 ∨ f = 3 := by
  obtain ⟨h1, h2⟩ := h
  omega
theorem row_at {f : Int} (h : Fm f) (d : Den rowsSh) : k_rows.getD (Int.toNat f) d = rowOf f := by
  rcases Fm_cases h with rfl | rfl | rfl | rfl <;> rfl
theorem fP_ge {f : Int} (h : Fm f) : 8 ≤ fP f := by
  rcases Fm_cases h with rfl | rfl | rfl | rfl <;> decide
theorem fP_lt {f : Int} (h : Fm f) : fP f + 5 ≤ fW f := by
  rcases Fm_cases h with rfl | rfl | rfl | rfl <;> decide
theorem fW_le {f : Int} (h : Fm f) : fW f ≤ 64 := by
  rcases Fm_cases h with rfl | rfl | rfl | rfl <;> decide
theorem fX_eq {f : Int} (h : Fm f) : 2 * fX f + 1 = 2 ^ (fW f - fP f) - 1 := by
  rcases Fm_cases h with rfl | rfl | rfl | rfl <;> decide
theorem wrapI {n : Int} (h : -9223372036854775808 ≤ n ∧ n < 9223372036854775808) : IntKind.wrap .i64 n = n := IntWalk.i64_in n ⟨h.1, by omega⟩
theorem wrapU {n : Int} (h : 0 ≤ n ∧ n < 18446744073709551616) : IntKind.wrap .u64 n = n := IntWalk.u64_in n ⟨h.1, by omega⟩
theorem shrN (a n : Nat) (hn : n ≤ 64) : shrI .u64 (a : Int) (n : Int) = ((a / 2 ^ n : Nat) : Int) := by
  rw [shrI_u64 n hn]
  simp
theorem wsub (m n : Nat) (h : n ≤ m) (hm : m ≤ 4611686018427387904) : IntKind.wrap .i64 ((m : Int) - (n : Int)) = ((m - n : Nat) : Int) := by
  rw [wrapI (by omega)]
  omega
theorem nbeq (m n : Nat) : ((m : Int) == (n : Int)) = (m == n) := by
  rw [Bool.eq_iff_iff]; simp only [beq_iff_eq]; omega
theorem nbeq0 (m : Nat) : ((m : Int) == 0) = (m == 0) := nbeq m 0
theorem nbne (m n : Nat) : ((m : Int) != (n : Int)) = (m != n) := by
  show (!((m : Int) == (n : Int))) = !(m == n)
  rw [nbeq]
theorem nbne0 (m : Nat) : ((m : Int) != 0) = (m != 0) := nbne m 0
theorem nlt (m n : Nat) : (decide ((m : Int) < (n : Int))) = decide (m < n) := by
  rw [Bool.eq_iff_iff]; simp
theorem nnn (m : Nat) : (decide (0 ≤ (m : Int))) = true := by simp
/-- a pattern's error -/
def chk (f : Int) (a : Nat) : Int := if Fm f then (if a < 2 ^ fW f then 0 else 4) else 2
def eF (f : Int) (a : Nat) : Nat := a / 2 ^ (fP f - 1) % 2 ^ (fW f - fP f)
def mF (f : Int) (a : Nat) : Nat := a % 2 ^ (fP f - 1)
def sF (f : Int) (a : Nat) : Bool := a / 2 ^ (fW f - 1) != 0
def fullF (f : Int) : Nat := 2 ^ (fW f - fP f) - 1
def absF (f : Int) (a : Nat) : Nat := a % 2 ^ (fW f - 1)
theorem T22_ok {f : Int} (h : Fm f) : T22 (f, ()) = some (rowOf f, 0, ()) := by
  rcases Fm_cases h with rfl | rfl | rfl | rfl <;> kernel_rfl
theorem T22_bad {f : Int} (h : ¬ Fm f) : T22 (f, ()) = some ((0, 0, 0, 0, ()), 2, ()) := by
  show t22 f = _
  unfold t22
  have : (decide (f < (0 : Int)) || decide (f ≥ (4 : Int))) = true := by
    simp only [Fm] at h
    simp only [Bool.or_eq_true, decide_eq_true_eq]
    omega
  rw [this]
  rfl
theorem chk_bad {f : Int} (h : ¬ Fm f) (a : Nat) : chk f a = 2 := by unfold chk; rw [if_neg h]
theorem chk_ok {f : Int} (h : Fm f) {a : Nat} (ha : a < 2 ^ fW f) : chk f a = 0 := by unfold chk; rw [if_pos h, if_pos ha]
theorem chk_big {f : Int} (h : Fm f) {a : Nat} (ha : ¬ a < 2 ^ fW f) : chk f a = 4 := by unfold chk; rw [if_pos h, if_neg ha]
theorem chk_zero {f : Int} {a : Nat} (h : chk f a = 0) : Fm f ∧ a < 2 ^ fW f := by
  unfold chk at h
  split at h
  · split at h
    · exact ⟨by assumption, by assumption⟩
    · cases h
  · cases h
theorem div_ne_zero {a n : Nat} : (a / 2 ^ n != 0) = decide (2 ^ n ≤ a) := by
  rw [Bool.eq_iff_iff]
  simp [Nat.div_eq_zero_iff, Nat.two_pow_pos]
theorem T48_eq (f : Int) (a : Nat) (ha : a < 2 ^ 64) : T48 (f, (a : Int), ()) = some (chk f a, ()) := by
  show t48 S22.pre S22.F f a = _
  unfold t48
  by_cases hf : Fm f
  · simp only [pre22 (T22_ok hf), fun22 (T22_ok hf), cond_true, rowOf, nnn, Bool.true_or]
    rw [shrN _ _ (fW_le hf), nbne0, div_ne_zero]
    show (bif decide ((fW f : Int) < ((64 : Nat) : Int)) && _ then _ else _) = _
    rw [nlt]
    have hw := fW_le hf
    by_cases h : a < 2 ^ fW f
    · have : (decide (fW f < 64) && decide (2 ^ fW f ≤ a)) = false := by simp; intro _; exact h
      rw [this, chk_ok hf h]; rfl
    · have : (decide (fW f < 64) && decide (2 ^ fW f ≤ a)) = true := by
        simp only [Bool.and_eq_true, decide_eq_true_eq]
        refine ⟨?_, by omega⟩
        rcases Nat.lt_or_ge (fW f) 64 with h1 | h1
        · exact h1
        · have : fW f = 64 := by omega
          rw [this] at h; omega
      rw [this, chk_big hf h]; rfl
  · simp only [pre22 (T22_bad hf), fun22 (T22_bad hf), cond_true, chk_bad hf]
    rfl
theorem T54_eq (n : Nat) (hn : n ≤ 63) : T54 ((n : Int), ()) = some (((2 ^ n - 1 : Nat) : Int), ()) := by
  show t54 n = _
  unfold t54
  have h2 : 2 ^ n ≤ 2 ^ 63 := Nat.pow_le_pow_right (by omega) hn
  have h1 : 0 < 2 ^ n := Nat.two_pow_pos n
  rw [nnn, cond_true, shlI_one hn]
  generalize 2 ^ n = c at *
  rw [wrapU (by omega)]
  have : (c : Int) - 1 = ((c - 1 : Nat) : Int) := by omega
  rw [this]
theorem T63_eq {f : Int} (hf : Fm f) (a : Nat) (ha : a < 2 ^ 64) : T63 (rowOf f, (a : Int), ()) = some (sF f a, (eF f a : Int), (mF f a : Int), ()) := by
  show t63 S54.pre S54.F (rowOf f) a = _
  unfold t63
  have h1 := fP_ge hf
  have h2 := fP_lt hf
  have h3 := fW_le hf
  have e1 : IntKind.wrap .i64 ((rowOf f).1 - 1) = ((fW f - 1 : Nat) : Int) := wsub (fW f) 1 (by omega) (by omega)
  have e2 : IntKind.wrap .i64 ((rowOf f).2.1 - 1) = ((fP f - 1 : Nat) : Int) := wsub (fP f) 1 (by omega) (by omega)
  have e3 : IntKind.wrap .i64 ((rowOf f).1 - (rowOf f).2.1) = ((fW f - fP f : Nat) : Int) := wsub (fW f) (fP f) (by omega) (by omega)
  have p1 := T54_eq (fW f - fP f) (by omega)
  have p2 := T54_eq (fP f - 1) (by omega)
  rw [e1, e2, e3]
  simp only [nnn, cond_true, pre54 p1, pre54 p2, fun54 p1, fun54 p2]
  rw [shrN _ _ (by omega), shrN _ _ (by omega), andI_mask (Nat.lt_of_le_of_lt (Nat.div_le_self _ _) ha) (by omega), andI_mask ha (by omega), nbne0]
  rfl
/-- a pattern's class -/
def cls (f : Int) (a : Nat) : Int :=
  bif eF f a == fullF f && mF f a == 0 then (bif sF f a then 2 else 9)
  else bif eF f a == fullF f && mF f a / 2 ^ (fP f - 2) != 0 then 1
  else bif eF f a == fullF f then 0
  else bif eF f a == 0 && mF f a == 0 then (bif sF f a then 5 else 6)
  else bif eF f a == 0 then (bif sF f a then 4 else 7)
  else (bif sF f a then 3 else 8)
theorem T26_ok {f : Int} {a : Nat} (ha : a < 2 ^ 64) (h : chk f a = 0) : T26 (f, (a : Int), ()) = some (cls f a, 0, ()) := by
  obtain ⟨hf, h0⟩ := chk_zero h
  show t26 S48.pre S48.F S63.pre S63.F S54.pre S54.F f a = _
  unfold t26
  have h1 := fP_ge hf
  have h2 := fP_lt hf
  have h3 := fW_le hf
  have e3 : IntKind.wrap .i64 ((rowOf f).1 - (rowOf f).2.1) = ((fW f - fP f : Nat) : Int) := wsub (fW f) (fP f) (by omega) (by omega)
  have e4 : IntKind.wrap .i64 ((rowOf f).2.1 - 2) = ((fP f - 2 : Nat) : Int) := wsub (fP f) 2 (by omega) (by omega)
  have p0 := T48_eq f a ha
  have p1 := T54_eq (fW f - fP f) (by omega)
  have p2 := T63_eq hf a ha
  have hr : (decide (0 ≤ f) && decide (f < ((4 : Nat) : Int))) = true := by
    simp only [Bool.and_eq_true, decide_eq_true_eq]; exact hf
  simp only [row_at hf, e3, e4, hr, pre48 p0, fun48 p0, pre54 p1, fun54 p1, pre63 p2, fun63 p2, h, cond_true, nnn, Bool.true_or, bne_self_eq_false, cond_false]
  rw [shrN _ _ (by omega), nbeq, nbeq0, nbeq0, nbne0]
  unfold cls fullF
  generalize (eF f a == 2 ^ (fW f - fP f) - 1) = b1
  generalize (mF f a == 0) = b2
  generalize (mF f a / 2 ^ (fP f - 2) != 0) = b3
  generalize (eF f a == 0) = b4
  generalize sF f a = b5
  cases b1 <;> cases b2 <;> cases b3 <;> cases b4 <;> cases b5 <;> rfl
theorem T26_bad {f : Int} {a : Nat} (ha : a < 2 ^ 64) (h : chk f a ≠ 0) : T26 (f, (a : Int), ()) = some (0, chk f a, ()) := by
  show t26 S48.pre S48.F S63.pre S63.F S54.pre S54.F f a = _
  unfold t26
  have p0 := T48_eq f a ha
  have : (chk f a != 0) = true := by simpa using h
  simp only [pre48 p0, fun48 p0, this, cond_true]
theorem T64_ok {f : Int} (hf : Fm f) : T64 (f, ()) = some (((2 ^ (fW f - 1) : Nat) : Int), ()) := by
  rcases Fm_cases hf with rfl | rfl | rfl | rfl <;> kernel_rfl
theorem T28_ok {f : Int} {a : Nat} (ha : a < 2 ^ 64) (h : chk f a = 0) : T28 (f, (a : Int), ()) = some ((absF f a : Int), 0, ()) := by
  obtain ⟨hf, h0⟩ := chk_zero h
  show t28 S48.pre S48.F S64.pre S64.F f a = _
  unfold t28
  have h2 := fP_lt hf
  have h3 := fW_le hf
  have p0 := T48_eq f a ha
  have p1 := T64_ok hf
  simp only [pre48 p0, fun48 p0, pre64 p1, fun64 p1, h, cond_true, bne_self_eq_false, cond_false]
  rw [andNotI_bit (by omega) (by rw [Nat.sub_add_cancel (by omega)]; exact h0)]
  rfl
/-- where a number stands among the patterns -/
def place (f : Int) (a : Nat) : Int := bif sF f a then -(absF f a : Int) else absF f a
theorem abs_lt (f : Int) (hf : Fm f) (a : Nat) : absF f a < 2 ^ 63 := by
  have h3 := fW_le hf
  exact Nat.lt_of_lt_of_le (Nat.mod_lt _ (Nat.two_pow_pos _)) (Nat.pow_le_pow_right (by omega) (by omega))
theorem abs_ne {f : Int} (a : Nat) : ((absF f a : Int) != (a : Int)) = sF f a := by
  rw [nbne]
  unfold absF sF
  rw [div_ne_zero, Bool.eq_iff_iff]
  simp only [bne_iff_ne, ne_eq, decide_eq_true_eq]
  constructor
  · intro h
    rcases Nat.lt_or_ge a (2 ^ (fW f - 1)) with h1 | h1
    · exact absurd (Nat.mod_eq_of_lt h1) h
    · exact h1
  · intro h h1
    have := Nat.mod_lt a (Nat.two_pow_pos (fW f - 1))
    omega
theorem T52_ok {f : Int} {a : Nat} (ha : a < 2 ^ 64) (h : chk f a = 0) : T52 (f, (a : Int), ()) = some ((cls f a, place f a, ()), 0, ()) := by
  show t52 S26.pre S26.F S28.pre S28.F f a = _
  unfold t52
  have hl := abs_lt f (chk_zero h).1 a
  have p0 := T26_ok ha h
  have p1 := T28_ok ha h
  simp only [pre26 p0, fun26 p0, pre28 p1, fun28 p1, cond_true, bne_self_eq_false, cond_false, abs_ne]
  rw [wrapI (n := (absF f a : Int)) (by omega), wrapI (by omega)]
  unfold place
  cases sF f a
  · rfl
  · simp
theorem T52_bad {f : Int} {a : Nat} (ha : a < 2 ^ 64) (h : chk f a ≠ 0) : T52 (f, (a : Int), ()) = some ((0, 0, ()), chk f a, ()) := by
  show t52 S26.pre S26.F S28.pre S28.F f a = _
  unfold t52
  have p0 := T26_bad ha h
  have : (chk f a != 0) = true := by simpa using h
  simp only [pre26 p0, fun26 p0, this, cond_true]
/-- the error of two patterns -/
def chk2 (f : Int) (a b : Nat) : Int := if chk f a = 0 then chk f b else chk f a
theorem T41_ok {f : Int} {a b : Nat} (ha : a < 2 ^ 64) (hb : b < 2 ^ 64) (h : chk f a = 0) (h' : chk f b = 0) : T41 (f, (a : Int), (b : Int), ()) = some ((cls f a, place f a, ()), (cls f b, place f b, ()), 0, ()) := by
  show t41 S52.pre S52.F f a b = _
  unfold t41
  have p0 := T52_ok ha h
  have p1 := T52_ok hb h'
  simp only [pre52 p0, fun52 p0, pre52 p1, fun52 p1, cond_true, bne_self_eq_false, cond_false]
theorem T41_bad {f : Int} {a b : Nat} (ha : a < 2 ^ 64) (hb : b < 2 ^ 64) (h : chk2 f a b ≠ 0) : ∃ x y, T41 (f, (a : Int), (b : Int), ()) = some (x, y, chk2 f a b, ()) := by
  show ∃ x y, t41 S52.pre S52.F f a b = _
  unfold t41
  unfold chk2 at h ⊢
  split at h
  · rename_i h0
    have p0 := T52_ok ha h0
    have p1 := T52_bad hb h
    refine ⟨(cls f a, place f a, ()), (0, 0, ()), ?_⟩
    simp only [pre52 p0, fun52 p0, pre52 p1, fun52 p1, cond_true, bne_self_eq_false, cond_false, if_pos h0]
  · rename_i h0
    have p0 := T52_bad ha h0
    have : (chk f a != 0) = true := by simpa using h
    refine ⟨(0, 0, ()), (0, 0, ()), ?_⟩
    simp only [pre52 p0, fun52 p0, cond_true, this, if_neg h0]
/-- not a number; a signalling one -/
def nan (f : Int) (a : Nat) : Bool := eF f a == fullF f && mF f a != 0
def snan (f : Int) (a : Nat) : Bool := nan f a && mF f a / 2 ^ (fP f - 2) == 0
theorem cls_nan (f : Int) (a : Nat) : (cls f a == 1 || cls f a == 0) = nan f a := by
  unfold cls nan
  simp only [bne]
  cases eF f a == fullF f <;> cases mF f a == 0 <;> cases sF f a <;> cases eF f a == 0 <;> cases mF f a / 2 ^ (fP f - 2) == 0 <;> rfl
theorem cls_snan (f : Int) (a : Nat) : (cls f a == 0) = snan f a := by
  unfold cls snan nan
  simp only [bne]
  cases eF f a == fullF f <;> cases hm : mF f a == 0 <;> cases sF f a <;> cases eF f a == 0 <;> cases mF f a / 2 ^ (fP f - 2) == 0 <;> rfl
/-- how a stands to b, what is raised, the error -/
def cmpF (f : Int) (a b : Nat) (signal : Bool) : Int × Int × Int × Unit :=
  if chk2 f a b ≠ 0 then (0, 0, chk2 f a b, ())
  else bif nan f a || nan f b then (3, (bif signal then 1 else bif snan f a || snan f b then 1 else 0), 0, ())
  else if place f a < place f b then (0, 0, 0, ())
  else if place f a > place f b then (2, 0, 0, ())
  else (1, 0, 0, ())
theorem chk2_zero {f : Int} {a b : Nat} (h : chk2 f a b = 0) : chk f a = 0 ∧ chk f b = 0 := by
  unfold chk2 at h
  split at h
  · exact ⟨by assumption, h⟩
  · exact absurd h (by assumption)
theorem T42_eq (x : Den (.pair (.int .i64) (.pair (.int .i64) .unit))) : T42 (x, ()) = some ((x.1 == 1 || x.1 == 0), ()) := rfl
theorem T43_eq (x y : Den (.pair (.int .i64) (.pair (.int .i64) .unit))) : T43 (x, y, ()) = some ((bif x.1 == 0 || y.1 == 0 then 1 else 0), ()) := by
  show t43 x y = _
  unfold t43
  cases (x.1 == (0 : Int) || y.1 == (0 : Int)) <;> rfl
theorem T11_eq {f : Int} {a b : Nat} (ha : a < 2 ^ 64) (hb : b < 2 ^ 64) (s : Bool) : T11 (f, (a : Int), (b : Int), s, ()) = some (cmpF f a b s) := by
  show t11 S41.pre S41.F S42.pre S42.F S43.pre S43.F f a b s = _
  unfold t11 cmpF
  by_cases h : chk2 f a b = 0
  · obtain ⟨h1, h2⟩ := chk2_zero h
    have p0 := T41_ok ha hb h1 h2
    simp only [pre41 p0, fun41 p0, pre42 (T42_eq _), fun42 (T42_eq _), pre43 (T43_eq _ _), fun43 (T43_eq _ _), cond_true, bne_self_eq_false, cond_false, cls_nan, Bool.true_or, h, ne_eq, not_true_eq_false, if_false, gt_iff_lt]
    simp only [cls_snan]
    cases nan f a || nan f b <;> cases s <;> by_cases hlt : place f a < place f b <;> by_cases hgt : place f b < place f a <;> simp [hlt, hgt]
  · obtain ⟨x, y, p0⟩ := T41_bad ha hb h
    have : (chk2 f a b != 0) = true := by simpa using h
    simp only [pre41 p0, fun41 p0, cond_true, this, if_pos (show chk2 f a b ≠ 0 from h)]
end VL
namespace VL
open Go Vx
def sgn (f : Int) (a : Nat) : Nat := a / 2 ^ (fW f - 1) % 2
theorem sgn_eq {f : Int} {a : Nat} (h : chk f a = 0) : (sgn f a == 1) = sF f a := by
  obtain ⟨hf, h0⟩ := chk_zero h
  have h2 := fP_lt hf
  unfold sgn sF
  have : a / 2 ^ (fW f - 1) < 2 := by
    rw [Nat.div_lt_iff_lt_mul (Nat.two_pow_pos _)]
    have : 2 ^ fW f = 2 * 2 ^ (fW f - 1) := by rw [← Nat.pow_succ']; congr 1; omega
    omega
  rw [Nat.mod_eq_of_lt this]
  generalize a / 2 ^ (fW f - 1) = q at this ⊢
  match q, this with
  | 0, _ => rfl
  | 1, _ => rfl
end VL
namespace VL
open Go Vx
theorem pow_split {f : Int} (hf : Fm f) : 2 ^ (fW f - 1) = 2 ^ (fP f - 1) * 2 ^ (fW f - fP f) := by
  have h1 := fP_ge hf
  have h2 := fP_lt hf
  rw [← Nat.pow_add]
  congr 1
  omega
theorem abs_eq {f : Int} (hf : Fm f) (a : Nat) : absF f a = mF f a + 2 ^ (fP f - 1) * eF f a := by
  unfold absF mF eF
  rw [pow_split hf, Nat.mod_mul]
theorem pat_eq {f : Int} {a : Nat} (h : chk f a = 0) : a = absF f a + (bif sF f a then 2 ^ (fW f - 1) else 0) := by
  obtain ⟨hf, h0⟩ := chk_zero h
  have h2 := fP_lt hf
  have e : 2 ^ fW f = 2 * 2 ^ (fW f - 1) := by rw [← Nat.pow_succ']; congr 1; omega
  unfold absF sF
  rw [div_ne_zero]
  by_cases hc : 2 ^ (fW f - 1) ≤ a
  · rw [decide_eq_true hc]
    simp only [cond_true]
    have : a % 2 ^ (fW f - 1) = a - 2 ^ (fW f - 1) := by
      rw [Nat.mod_eq_sub_mod hc, Nat.mod_eq_of_lt (by omega)]
    omega
  · rw [decide_eq_false hc]
    simp only [cond_false]
    rw [Nat.mod_eq_of_lt (by omega)]
    rfl
theorem full_pos {f : Int} (hf : Fm f) : 0 < fullF f := by
  rcases Fm_cases hf with rfl | rfl | rfl | rfl <;> decide
theorem zero_iff {f : Int} (hf : Fm f) (a : Nat) : absF f a = 0 ↔ eF f a = 0 ∧ mF f a = 0 := by
  rw [abs_eq hf]
  have := Nat.two_pow_pos (fP f - 1)
  constructor
  · intro h
    have h1 : 2 ^ (fP f - 1) * eF f a = 0 := by omega
    rcases Nat.mul_eq_zero.1 h1 with h2 | h2
    · omega
    · exact ⟨h2, by omega⟩
  · rintro ⟨h1, h2⟩
    rw [h1, h2]; rfl
end VL
namespace VL
open Go Vx
/-- the pattern with a sign and the rest -/
def mkF (f : Int) (s : Bool) (n : Nat) : Nat := n + (bif s then 2 ^ (fW f - 1) else 0)
theorem mk_abs {f : Int} (s : Bool) {n : Nat} (hn : n < 2 ^ (fW f - 1)) : absF f (mkF f s n) = n := by
  unfold absF mkF
  cases s
  · simp only [cond_false, Nat.add_zero]; exact Nat.mod_eq_of_lt hn
  · simp only [cond_true, Nat.add_mod_right]; exact Nat.mod_eq_of_lt hn
theorem mk_sgn {f : Int} (s : Bool) {n : Nat} (hn : n < 2 ^ (fW f - 1)) : sF f (mkF f s n) = s := by
  unfold sF mkF
  rw [div_ne_zero]
  cases s
  · simp only [cond_false, Nat.add_zero, decide_eq_false_iff_not]; omega
  · simp
theorem pat_mk {f : Int} {a : Nat} (h : chk f a = 0) : a = mkF f (sF f a) (absF f a) := pat_eq h
theorem eF_abs {f : Int} (hf : Fm f) (a : Nat) : eF f a = absF f a / 2 ^ (fP f - 1) := by
  rw [abs_eq hf, Nat.add_mul_div_left _ _ (Nat.two_pow_pos _)]
  have : mF f a / 2 ^ (fP f - 1) = 0 := Nat.div_eq_of_lt (Nat.mod_lt _ (Nat.two_pow_pos _))
  omega
theorem mF_abs {f : Int} (hf : Fm f) (a : Nat) : mF f a = absF f a % 2 ^ (fP f - 1) := by
  rw [abs_eq hf, Nat.add_mul_mod_self_left]
  exact (Nat.mod_eq_of_lt (Nat.mod_lt _ (Nat.two_pow_pos _))).symm
/-- infinity without its sign -/
def infF (f : Int) : Nat := 2 ^ (fP f - 1) * fullF f
theorem inf_room {f : Int} (hf : Fm f) : infF f + 128 ≤ 2 ^ (fW f - 1) := by
  rcases Fm_cases hf with rfl | rfl | rfl | rfl <;> decide
theorem e_le {f : Int} (a : Nat) : eF f a ≤ fullF f := by
  have : eF f a < 2 ^ (fW f - fP f) := Nat.mod_lt _ (Nat.two_pow_pos _)
  unfold fullF; omega
end VL
namespace VL
open Go Vx
/-- the number of digits, the lowest first -/
def nv (B : Nat) : List Nat → Nat
  | [] => 0
  | x :: r => x + B * nv B r
/-- a number's digits -/
def dg (B : Nat) (n : Nat) : List Nat :=
  if h : n = 0 ∨ B < 2 then [] else n % B :: dg B (n / B)
termination_by n
decreasing_by exact Nat.div_lt_self (by omega) (by omega)
theorem dg_zero (B : Nat) : dg B 0 = [] := by rw [dg]; simp
theorem dg_pos {B n : Nat} (hB : 2 ≤ B) (hn : 0 < n) : dg B n = n % B :: dg B (n / B) := by
  rw [dg]; rw [dif_neg (by omega)]
theorem dg_lt {B : Nat} (hB : 2 ≤ B) : ∀ (n : Nat), ∀ x ∈ dg B n, x < B := by
  intro n
  induction n using Nat.strongRecOn with
  | ind n ih =>
    intro x hx
    rcases Nat.eq_zero_or_pos n with rfl | hn
    · rw [dg_zero] at hx; simp at hx
    · rw [dg_pos hB hn] at hx
      rcases List.mem_cons.1 hx with rfl | hx
      · exact Nat.mod_lt _ (by omega)
      · exact ih (n / B) (Nat.div_lt_self hn (by omega)) x hx
end VL
namespace VL
open Go Vx
/-- how many bits -/
def blen (n : Nat) : Nat := if n = 0 then 0 else Nat.log2 n + 1
theorem blen_lt (n : Nat) : n < 2 ^ blen n := by
  unfold blen
  split
  · subst_vars; decide
  · exact Nat.lt_log2_self
theorem blen_le {n : Nat} (h : n ≠ 0) : 2 ^ (blen n - 1) ≤ n := by
  unfold blen
  rw [if_neg h]
  exact Nat.log2_self_le h
theorem blen_of {n k : Nat} (h1 : 2 ^ k ≤ n) (h2 : n < 2 ^ (k + 1)) : blen n = k + 1 := by
  have hp := Nat.two_pow_pos k
  have hn : n ≠ 0 := by omega
  have a1 := blen_lt n
  have a2 := blen_le hn
  have b1 : blen n - 1 < k + 1 := (Nat.pow_lt_pow_iff_right (by decide)).1 (Nat.lt_of_le_of_lt a2 h2)
  have b2 : k < blen n := (Nat.pow_lt_pow_iff_right (by decide)).1 (Nat.lt_of_le_of_lt h1 a1)
  omega
theorem blen_shift {n k : Nat} (h : 2 ^ k ≤ n) : blen n = k + blen (n / 2 ^ k) := by
  have hp := Nat.two_pow_pos k
  have hq : 0 < n / 2 ^ k := Nat.div_pos h hp
  have a1 := blen_lt (n / 2 ^ k)
  have a2 := blen_le (n := n / 2 ^ k) (by omega)
  have hb : 0 < blen (n / 2 ^ k) := by unfold blen; rw [if_neg (by omega)]; omega
  have h1 : 2 ^ (k + (blen (n / 2 ^ k) - 1)) ≤ n := by
    rw [Nat.pow_add]
    calc 2 ^ k * 2 ^ (blen (n / 2 ^ k) - 1) ≤ 2 ^ k * (n / 2 ^ k) := Nat.mul_le_mul_left _ a2
      _ ≤ n := Nat.mul_div_le n _
  have h2 : n < 2 ^ (k + (blen (n / 2 ^ k) - 1) + 1) := by
    rw [show k + (blen (n / 2 ^ k) - 1) + 1 = k + blen (n / 2 ^ k) by omega, Nat.pow_add, Nat.mul_comm]
    exact (Nat.div_lt_iff_lt_mul hp).1 a1
  have := blen_of h1 h2
  omega
end VL
namespace VL
open Go Vx
theorem nv_append (B : Nat) : ∀ (l m : List Nat), nv B (l ++ m) = nv B l + B ^ l.length * nv B m
  | [], m => by simp [nv]
  | x :: r, m => by
    simp only [List.cons_append, nv, List.length_cons]
    rw [nv_append B r m, Nat.pow_succ, Nat.mul_add, Nat.add_assoc]
    congr 2
    rw [Nat.mul_comm (B ^ r.length) B, Nat.mul_assoc]
theorem nv_lt {B : Nat} (hB : 2 ≤ B) : ∀ (l : List Nat), (∀ x ∈ l, x < B) → nv B l < B ^ l.length
  | [], _ => by simp [nv]
  | x :: r, h => by
    have ih := nv_lt hB r fun y hy => h y (by simp [hy])
    have hx := h x (by simp)
    simp only [nv, List.length_cons, Nat.pow_succ]
    have : B * nv B r ≤ B * (B ^ r.length - 1) := Nat.mul_le_mul_left _ (by omega)
    have hp : 0 < B ^ r.length := Nat.pow_pos (by omega)
    rw [Nat.mul_sub] at this
    have h1 : B * 1 ≤ B * B ^ r.length := Nat.mul_le_mul_left _ hp
    rw [Nat.mul_comm (B ^ r.length) B]
    omega
theorem nv_split (B : Nat) (l : List Nat) (i : Nat) (h : i ≤ l.length) : nv B l = nv B (l.take i) + B ^ i * nv B (l.drop i) := by
  conv => lhs; rw [← List.take_append_drop i l]
  rw [nv_append]
  simp [h]
end VL
namespace VL
open Go Vx
theorem dg_len_le {B : Nat} (hB : 2 ≤ B) : ∀ (k n : Nat), n < B ^ k → (dg B n).length ≤ k
  | 0, n, h => by simp at h; subst h; rw [dg_zero]; simp
  | k + 1, n, h => by
    rcases Nat.eq_zero_or_pos n with rfl | hn
    · rw [dg_zero]; simp
    · rw [dg_pos hB hn]
      have := dg_len_le hB k (n / B) (by rw [Nat.div_lt_iff_lt_mul (by omega), ← Nat.pow_succ]; exact h)
      simp; omega
end VL
namespace VL
open Go Vx
/-- does the last place go up? rest: 0 nothing is lost, 1 less than a half, 2 a half, 3 more -/
def furM (m : Int) (neg odd : Bool) (rest : Nat) : Bool :=
  if m = 4 then neg else if m = 3 then !neg else if m = 0 then (if rest = 2 then odd else decide (2 ≤ rest)) else if m = 1 then decide (2 ≤ rest) else if m = 5 then !odd else false
/-- n times 2^e in units of 2^q: the whole ones -/
def quoE (n : Nat) (e q : Int) : Nat := if q ≤ e then n * 2 ^ (e - q).toNat else n / 2 ^ (q - e).toNat
def clsR (r s : Nat) : Nat := if r = 0 then 0 else if r < 2 ^ (s - 1) then 1 else if r = 2 ^ (s - 1) then 2 else 3
/-- and what is lost -/
def rstE (n : Nat) (e q : Int) : Nat := if q ≤ e then 0 else clsR (n % 2 ^ (q - e).toNat) (q - e).toNat
def cutR (n : Nat) (e q : Int) (more : Bool) : Nat := if more then rstE n e q / 2 * 2 + 1 else rstE n e q
def cutN (m : Int) (neg : Bool) (n : Nat) (e q : Int) (more : Bool) : Nat :=
  if cutR n e q more ≠ 0 ∧ furM m neg (decide (quoE n e q % 2 = 1)) (cutR n e q more) = true then quoE n e q + 1 else quoE n e q
end VL
namespace VL
open Go Vx
def sgnF (f : Int) (neg : Bool) : Nat := if neg then 2 ^ (fW f - 1) else 0
def infB (f : Int) (neg : Bool) : Nat := (2 ^ (fW f - fP f) - 1) * 2 ^ (fP f - 1) + sgnF f neg
def upw (m : Int) (neg : Bool) : Bool := ((m == 0 || m == 1) || (m == 3 && !neg)) || (m == 4 && neg)
def beyB (f m : Int) (neg : Bool) : Nat := if upw m neg then infB f neg else infB f neg - 1
def topE (n : Nat) (e : Int) : Int := e + (blen n : Int) - 1
theorem blen_bound {n k : Nat} (h : n < 2 ^ k) : blen n ≤ k := by
  rcases Nat.eq_zero_or_pos n with rfl | hn
  · exact Nat.zero_le _
  · have := blen_le (n := n) (by omega)
    have : blen n - 1 < k := (Nat.pow_lt_pow_iff_right (a := 2) (by decide)).1 (Nat.lt_of_le_of_lt this h)
    omega
theorem blen_pos {n : Nat} (h : n ≠ 0) : 1 ≤ blen n := by unfold blen; rw [if_neg h]; omega
/-- what is cut fits -/
theorem quo_lt {n : Nat} {e q : Int} {p : Nat} (h : topE n e - p + 1 ≤ q) : quoE n e q < 2 ^ p := by
  unfold topE at h
  unfold quoE
  have hb := blen_lt n
  by_cases hq : q ≤ e
  · rw [if_pos hq]
    have h1 : n * 2 ^ (e - q).toNat < 2 ^ blen n * 2 ^ (e - q).toNat := Nat.mul_lt_mul_of_pos_right hb (Nat.two_pow_pos _)
    rw [← Nat.pow_add] at h1
    exact Nat.lt_of_lt_of_le h1 (Nat.pow_le_pow_right (by decide) (by omega))
  · rw [if_neg hq, Nat.div_lt_iff_lt_mul (Nat.two_pow_pos _), ← Nat.pow_add]
    exact Nat.lt_of_lt_of_le hb (Nat.pow_le_pow_right (by decide) (by omega))
theorem cut_le {m : Int} {neg : Bool} {n : Nat} {e q : Int} {more : Bool} {p : Nat} (h : topE n e - p + 1 ≤ q) : cutN m neg n e q more ≤ 2 ^ p := by
  have := quo_lt h
  unfold cutN
  split <;> omega
end VL
namespace VL
open Go Vx
/-- the place of the last bit -/
def lowE (f : Int) (t : Int) : Int := (if 1 - (fX f : Int) > t then 1 - (fX f : Int) else t) - fP f + 1
def isTiny (f m : Int) (neg : Bool) (n : Nat) (e : Int) (more : Bool) : Prop := topE n e < 1 - (fX f : Int) ∧ topE n e - fP f + blen (cutN m neg n e (topE n e - fP f + 1) more) < 1 - (fX f : Int)
instance (f m : Int) (neg : Bool) (n : Nat) (e : Int) (more : Bool) : Decidable (isTiny f m neg n e more) := by unfold isTiny; infer_instance
/-- a number's rounding: the bits and the flags -/
def rndN (f m : Int) (neg : Bool) (n : Nat) (e : Int) (more : Bool) : Nat × Nat :=
  if topE n e > fX f then (beyB f m neg, 20)
  else
    let q := lowE f (topE n e)
    let u := cutN m neg n e q more
    if q + blen u - 1 > fX f then (beyB f m neg, 20)
    else ((q - (1 - (fX f : Int) - fP f + 1)).toNat * 2 ^ (fP f - 1) + u + sgnF f neg,
      if cutR n e q more = 0 then 0 else if isTiny f m neg n e more then 24 else 16)
theorem fX_ge {f : Int} (hf : Fm f) : 15 ≤ fX f := by
  rcases Fm_cases hf with rfl | rfl | rfl | rfl <;> decide
end VL
namespace VL
open Go Vx
theorem cls_more {r k s ρ : Nat} (hρ : 0 < ρ) (hρ2 : ρ < 2 ^ k) (hs : 1 ≤ s) : clsR (ρ + 2 ^ k * r) (k + s) = clsR r s / 2 * 2 + 1 := by
  unfold clsR
  have hp : 2 ^ (k + s - 1) = 2 ^ k * 2 ^ (s - 1) := by rw [← Nat.pow_add]; congr 1; omega
  rw [hp]
  have hh := Nat.two_pow_pos (s - 1)
  generalize 2 ^ (s - 1) = h at *
  generalize 2 ^ k = K at *
  rw [if_neg (by omega)]
  rcases Nat.lt_trichotomy r h with h1 | h1 | h1
  · have : K * (r + 1) ≤ K * h := Nat.mul_le_mul_left _ h1
    rw [Nat.mul_add, Nat.mul_one] at this
    rw [if_pos (by omega)]
    by_cases hr : r = 0
    · rw [if_pos hr]
    · rw [if_neg hr, if_pos h1]
  · subst h1
    rw [if_neg (by omega), if_neg (by omega), if_neg (by omega), if_neg (by omega), if_pos rfl]
  · have : K * (h + 1) ≤ K * r := Nat.mul_le_mul_left _ h1
    rw [Nat.mul_add, Nat.mul_one] at this
    rw [if_neg (by omega), if_neg (by omega), if_neg (by omega), if_neg (by omega), if_neg (by omega)]
theorem cls_scale {r k s : Nat} (hs : 1 ≤ s) : clsR (2 ^ k * r) (k + s) = clsR r s := by
  unfold clsR
  have hp : 2 ^ (k + s - 1) = 2 ^ k * 2 ^ (s - 1) := by rw [← Nat.pow_add]; congr 1; omega
  rw [hp]
  have hk := Nat.two_pow_pos k
  generalize 2 ^ (s - 1) = h at *
  generalize 2 ^ k = K at *
  have h1 : K * r = 0 ↔ r = 0 := by
    constructor
    · intro h; rcases Nat.mul_eq_zero.1 h with h | h <;> omega
    · intro h; rw [h, Nat.mul_zero]
  have h2 : K * r < K * h ↔ r < h := Nat.mul_lt_mul_left hk
  have h3 : K * r = K * h ↔ r = h := Nat.mul_right_inj (by omega)
  simp only [h1, h2, h3]
theorem mod_split (N k s : Nat) : N % 2 ^ (k + s) = N % 2 ^ k + 2 ^ k * (N / 2 ^ k % 2 ^ s) := by
  rw [Nat.pow_add, Nat.mod_mul]
theorem quoE_lo {n : Nat} {e q : Int} (h : q ≤ e) : quoE n e q = n * 2 ^ (e - q).toNat := if_pos h
theorem quoE_hi {n : Nat} {e q : Int} (h : e < q) : quoE n e q = n / 2 ^ (q - e).toNat := if_neg (by omega)
theorem rstE_lo {n : Nat} {e q : Int} (h : q ≤ e) : rstE n e q = 0 := if_pos h
theorem rstE_hi {n : Nat} {e q : Int} (h : e < q) : rstE n e q = clsR (n % 2 ^ (q - e).toNat) (q - e).toNat := if_neg (by omega)
theorem cutR_f (n : Nat) (e q : Int) : cutR n e q false = rstE n e q := rfl
theorem cutR_t (n : Nat) (e q : Int) : cutR n e q true = rstE n e q / 2 * 2 + 1 := rfl
/-- with a part cut away, and the mark that there was one -/
theorem cut_trunc {N k : Nat} {E q : Int} (hq : N % 2 ^ k ≠ 0 → E + k < q) :
    quoE (N / 2 ^ k) (E + k) q = quoE N E q ∧ cutR (N / 2 ^ k) (E + k) q (decide (N % 2 ^ k ≠ 0)) = cutR N E q false := by
  have hk := Nat.two_pow_pos k
  have hdm := Nat.div_add_mod N (2 ^ k)
  by_cases h1 : E + k < q
  · have es : (q - E).toNat = k + (q - (E + k)).toNat := by omega
    have hs : 1 ≤ (q - (E + k)).toNat := by omega
    rw [quoE_hi h1, quoE_hi (by omega), cutR_f, rstE_hi (e := E) (by omega), es]
    have hrs := rstE_hi (n := N / 2 ^ k) h1
    generalize (q - (E + k)).toNat = s at *
    refine ⟨by rw [Nat.div_div_eq_div_mul, ← Nat.pow_add], ?_⟩
    rw [mod_split]
    by_cases hr : N % 2 ^ k = 0
    · rw [hr, Nat.zero_add, cls_scale hs, show decide ((0 : Nat) ≠ 0) = false by decide, cutR_f, hrs]
    · have hρ : 0 < N % 2 ^ k := by omega
      rw [cls_more hρ (Nat.mod_lt _ hk) hs, decide_eq_true hr, cutR_t, hrs]
  · have hr : N % 2 ^ k = 0 := by
      by_cases h : N % 2 ^ k = 0
      · exact h
      · exact absurd (hq h) h1
    rw [hr, Nat.add_zero] at hdm
    rw [hr]
    clear hq hr
    generalize N / 2 ^ k = n at *
    subst hdm
    have hz : decide ((0 : Nat) ≠ 0) = false := by decide
    rw [hz, quoE_lo (by omega), cutR_f, cutR_f, rstE_lo (by omega)]
    by_cases h2 : q ≤ E
    · rw [quoE_lo h2, rstE_lo h2, show (E + k - q).toNat = k + (E - q).toNat by omega, Nat.pow_add, Nat.mul_comm (2 ^ k) n, Nat.mul_assoc]
      exact ⟨rfl, rfl⟩
    · rw [quoE_hi (by omega), rstE_hi (by omega)]
      have ek : k = (q - E).toNat + (E + k - q).toNat := by omega
      generalize (q - E).toNat = s at *
      generalize (E + k - q).toNat = t at *
      have : 2 ^ k * n = 2 ^ s * (2 ^ t * n) := by rw [ek, Nat.pow_add, Nat.mul_assoc]
      rw [this, Nat.mul_div_cancel_left _ (Nat.two_pow_pos s), Nat.mul_mod_right]
      exact ⟨Nat.mul_comm _ _, rfl⟩
theorem cutN_trunc {m : Int} {neg : Bool} {N k : Nat} {E q : Int} (hq : N % 2 ^ k ≠ 0 → E + k < q) : cutN m neg (N / 2 ^ k) (E + k) q (decide (N % 2 ^ k ≠ 0)) = cutN m neg N E q false := by
  obtain ⟨h1, h2⟩ := cut_trunc hq
  unfold cutN
  rw [h1, h2]
theorem top_trunc {N k : Nat} {E : Int} (hn : N / 2 ^ k ≠ 0) : topE (N / 2 ^ k) (E + k) = topE N E := by
  have hk := Nat.two_pow_pos k
  have h1 : 2 ^ k ≤ N := by
    rcases Nat.lt_or_ge N (2 ^ k) with h | h
    · exact absurd (Nat.div_eq_of_lt h) hn
    · exact h
  have := blen_shift h1
  unfold topE
  omega
theorem rnd_trunc {f m : Int} {neg : Bool} {N k : Nat} {E : Int} (hf : Fm f) (hn : N / 2 ^ k ≠ 0) (hm : N % 2 ^ k ≠ 0 → fP f + 2 ≤ blen (N / 2 ^ k)) : rndN f m neg (N / 2 ^ k) (E + k) (decide (N % 2 ^ k ≠ 0)) = rndN f m neg N E false := by
  have ht := top_trunc (E := E) hn
  have htd : topE (N / 2 ^ k) (E + k) = E + k + (blen (N / 2 ^ k) : Int) - 1 := rfl
  have hq1 : N % 2 ^ k ≠ 0 → E + k < lowE f (topE N E) := fun h => by
    have := hm h
    unfold lowE
    split <;> omega
  have hq2 : N % 2 ^ k ≠ 0 → E + k < topE N E - fP f + 1 := fun h => by
    have := hm h
    omega
  have hti : isTiny f m neg (N / 2 ^ k) (E + k) (decide (N % 2 ^ k ≠ 0)) = isTiny f m neg N E false := by
    unfold isTiny
    rw [ht, cutN_trunc hq2]
  unfold rndN
  simp only [ht, cutN_trunc hq1, (cut_trunc hq1).2, hti]
theorem rnd_scale {f m : Int} {neg : Bool} (hf : Fm f) {n : Nat} (hn : n ≠ 0) (k : Nat) (e : Int) : rndN f m neg (n * 2 ^ k) e false = rndN f m neg n (e + k) false := by
  have hk := Nat.two_pow_pos k
  have := rnd_trunc (f := f) (m := m) (neg := neg) (N := n * 2 ^ k) (k := k) (E := e) hf (by rw [Nat.mul_div_cancel _ hk]; exact hn) (by rw [Nat.mul_mod_left]; omega)
  rw [Nat.mul_div_cancel _ hk, Nat.mul_mod_left] at this
  exact this.symm
end VL
namespace VL
open Go Vx
theorem blen_ge {n k : Nat} (h : 2 ^ k ≤ n) : k + 1 ≤ blen n := by
  have h1 := blen_lt n
  have : k < blen n := (Nat.pow_lt_pow_iff_right (a := 2) (by decide)).1 (Nat.lt_of_le_of_lt h h1)
  omega
end VL
namespace VL
open Go Vx
def Hs (l : List Nat) : Prop := (∀ x ∈ l, x < 2 ^ 32) ∧ l.length ≤ 1000000
theorem Hs.dg {n : Nat} (h : n < 2 ^ 100000) : Hs (dg (2 ^ 32) n) := by
  refine ⟨dg_lt (by decide) n, ?_⟩
  have : n < (2 ^ 32) ^ 3125 := by rw [← Nat.pow_mul]; exact h
  have := dg_len_le (B := 2 ^ 32) (by decide) 3125 n this
  omega
theorem wu_id (n : Nat) (h : n < 2 ^ 64) : IntKind.wrap .u64 (n : Int) = (n : Int) := wrapU (by omega)
end VL
namespace VL
open Go Vx
theorem nv_drop_next (B : Nat) (l : List Nat) (i : Nat) (h : i < l.length) : nv B (l.drop i) = l.getD i 0 + B * nv B (l.drop (i + 1)) := by
  rw [List.drop_eq_getElem_cons h, List.getD_eq_getElem?_getD, List.getElem?_eq_getElem h]; rfl
theorem take_lt {B : Nat} (hB : 2 ≤ B) {l : List Nat} (h : ∀ x ∈ l, x < B) (i : Nat) : nv B (l.take i) < B ^ i := by
  have := nv_lt hB (l.take i) fun x hx => h x (List.mem_of_mem_take hx)
  refine Nat.lt_of_lt_of_le this (Nat.pow_le_pow_right (by omega) ?_)
  rw [List.length_take]
  exact Nat.min_le_left _ _
theorem split_lt {P A A' X Y : Nat} (h : A < P) (hxy : X < Y) : A + P * X < A' + P * Y := by
  have : P * (X + 1) ≤ P * Y := Nat.mul_le_mul_left _ hxy
  rw [Nat.mul_add, Nat.mul_one] at this
  omega
theorem row_lt {B : Nat} (hB : 2 ≤ B) {a b : List Nat} (ha : ∀ x ∈ a, x < B) {i : Nat} (hia : i < a.length) (hib : i < b.length) (hd : nv B (a.drop (i + 1)) = nv B (b.drop (i + 1))) (h : a.getD i 0 < b.getD i 0) : nv B a < nv B b := by
  rw [nv_split B a i (by omega), nv_split B b i (by omega), nv_drop_next B a i hia, nv_drop_next B b i hib, hd]
  exact split_lt (take_lt hB ha i) (by omega)
theorem Hs.len {n : Nat} (h : n < 2 ^ 100000) : (VL.dg (2 ^ 32) n).length ≤ 3125 := by
  have : n < (2 ^ 32) ^ 3125 := by rw [← Nat.pow_mul]; exact h
  exact dg_len_le (B := 2 ^ 32) (by decide) 3125 n this
end VL
namespace VL
open Go Vx
theorem mode_cases {m : Int} (hm : 0 ≤ m ∧ m ≤ 5) : m = 0 ∨ m = 1 ∨ m = 2 ∨ m = 3 ∨ m = 4 ∨ m = 5 := by omega
theorem cut_lt_big {f m : Int} (hf : Fm f) {neg : Bool} {n : Nat} {e q : Int} (h : topE n e - fP f + 1 ≤ q) : cutN m neg n e q false ≤ 2 ^ fP f := cut_le h
end VL
namespace VL
open Go Vx
/-- a number's mantissa and its exponent -/
def mant (f : Int) (a : Nat) : Nat := if eF f a = 0 then mF f a else mF f a + 2 ^ (fP f - 1)
def xpn (f : Int) (a : Nat) : Int := 1 - (fX f : Int) - (fP f : Int) + 1 + (if eF f a = 0 then 0 else (eF f a : Int) - 1)
theorem mF_lt (f : Int) (a : Nat) : mF f a < 2 ^ (fP f - 1) := Nat.mod_lt _ (Nat.two_pow_pos _)
/-- is it without end -/
def isInf (f : Int) (a : Nat) : Bool := eF f a == fullF f && mF f a == 0
theorem part_vals {f : Int} {a : Nat} (h : eF f a ≠ fullF f) : nan f a = false ∧ snan f a = false ∧ isInf f a = false := by
  unfold snan nan isInf
  simp [h]
end VL
namespace VL
open Go Vx
theorem infB_eq (f : Int) (neg : Bool) : infB f neg = infF f + sgnF f neg := by
  unfold infB infF fullF; rw [Nat.mul_comm]
theorem add_sgn (f : Int) (s : Bool) (x : Nat) : x + sgnF f s = mkF f s x := by
  unfold mkF sgnF; cases s <;> rfl
theorem inf_ge {f : Int} (hf : Fm f) : infF f = (2 * fX f + 1) * 2 ^ (fP f - 1) := by
  unfold infF fullF; rw [← fX_eq hf, Nat.mul_comm]
/-- a rounded number's magnitude and its flags -/
def rndM (f m : Int) (neg : Bool) (n : Nat) (e : Int) : Nat × Nat :=
  if topE n e > fX f then ((if upw m neg then infF f else infF f - 1), 20)
  else
    let q := lowE f (topE n e)
    let u := cutN m neg n e q false
    if q + blen u - 1 > fX f then ((if upw m neg then infF f else infF f - 1), 20)
    else ((q - (1 - (fX f : Int) - fP f + 1)).toNat * 2 ^ (fP f - 1) + u,
      if cutR n e q false = 0 then 0 else if isTiny f m neg n e false then 24 else 16)
theorem infF_pos {f : Int} (hf : Fm f) : 1 ≤ infF f := by
  rw [inf_ge hf]
  exact Nat.mul_pos (by omega) (Nat.two_pow_pos _)
theorem bey_M {f m : Int} (hf : Fm f) (neg : Bool) : beyB f m neg = mkF f neg (if upw m neg then infF f else infF f - 1) := by
  have := infF_pos hf
  unfold beyB
  rw [infB_eq, ← add_sgn]
  split <;> omega
theorem rnd_M {f : Int} (hf : Fm f) (m : Int) (neg : Bool) (n : Nat) (e : Int) : rndN f m neg n e false = (mkF f neg (rndM f m neg n e).1, (rndM f m neg n e).2) := by
  unfold rndN rndM
  by_cases h : topE n e > fX f
  · rw [if_pos h, if_pos h, bey_M hf]
  · rw [if_neg h, if_neg h]
    dsimp only
    by_cases h2 : lowE f (topE n e) + (blen (cutN m neg n e (lowE f (topE n e)) false) : Int) - 1 > fX f
    · rw [if_pos h2, if_pos h2, bey_M hf]
    · rw [if_neg h2, if_neg h2]
      dsimp only
      rw [add_sgn]
theorem low_facts (f : Int) (hf : Fm f) (t : Int) (ht : ¬ t > fX f) : t - (fP f : Int) + 1 ≤ lowE f t ∧ 1 - (fX f : Int) - (fP f : Int) + 1 ≤ lowE f t ∧ lowE f t ≤ (fX f : Int) - (fP f : Int) + 1 := by
  have := fX_ge hf
  unfold lowE; split <;> refine ⟨?_, ?_, ?_⟩ <;> omega
theorem rndM_lt {f m : Int} (hf : Fm f) {neg : Bool} {n : Nat} {e : Int} (h1 : ¬ topE n e > fX f) (h2 : ¬ lowE f (topE n e) + (blen (cutN m neg n e (lowE f (topE n e)) false) : Int) - 1 > fX f) :
    (lowE f (topE n e) - (1 - (fX f : Int) - fP f + 1)).toNat * 2 ^ (fP f - 1) + cutN m neg n e (lowE f (topE n e)) false < infF f := by
  obtain ⟨g1, g2, g3⟩ := low_facts f hf _ h1
  have hu := cut_lt_big (m := m) (neg := neg) hf g1
  generalize lowE f (topE n e) = q at *
  generalize cutN m neg n e q false = u at *
  have hP := fP_ge hf
  have hX := fX_ge hf
  have hpp := Nat.two_pow_pos (fP f - 1)
  have h2p : 2 ^ fP f = 2 * 2 ^ (fP f - 1) := by rw [← Nat.pow_succ', Nat.succ_eq_add_one, Nat.sub_add_cancel (by omega)]
  rw [inf_ge hf]
  obtain ⟨k, hk⟩ := Int.eq_ofNat_of_zero_le (show 0 ≤ q - (1 - (fX f : Int) - (fP f : Int) + 1) by omega)
  rw [hk, Int.toNat_natCast]
  rcases Nat.lt_or_ge u (2 ^ fP f) with h | h
  · have hk2 : k + 2 ≤ 2 * fX f + 1 := by omega
    have := Nat.mul_le_mul_right (2 ^ (fP f - 1)) hk2
    rw [Nat.add_mul] at this
    omega
  · have hb : fP f + 1 ≤ blen u := blen_ge h
    have hk2 : k + 3 ≤ 2 * fX f + 1 := by omega
    have := Nat.mul_le_mul_right (2 ^ (fP f - 1)) hk2
    rw [Nat.add_mul] at this
    omega
theorem rndM_le {f : Int} (hf : Fm f) (m : Int) (neg : Bool) (n : Nat) (e : Int) : (rndM f m neg n e).1 ≤ infF f := by
  unfold rndM
  by_cases h : topE n e > fX f
  · rw [if_pos h]; dsimp only; split <;> omega
  · rw [if_neg h]
    dsimp only
    by_cases h2 : lowE f (topE n e) + (blen (cutN m neg n e (lowE f (topE n e)) false) : Int) - 1 > fX f
    · rw [if_pos h2]; dsimp only; split <;> omega
    · rw [if_neg h2]
      exact Nat.le_of_lt (rndM_lt hf h h2)
theorem infF_lt {f : Int} (hf : Fm f) : infF f < 2 ^ (fW f - 1) := by have := inf_room hf; omega
theorem mk_place {f : Int} (s : Bool) {x : Nat} (hx : x < 2 ^ (fW f - 1)) : place f (mkF f s x) = bif s then -(x : Int) else x := by
  unfold place
  rw [mk_abs s hx, mk_sgn s hx]
/-- a number of the format is its own rounding -/
theorem rnd_self {f m : Int} (hf : Fm f) {a : Nat} (h : chk f a = 0) (hfin : eF f a ≠ fullF f) (h0 : mant f a ≠ 0) : rndN f m (sF f a) (mant f a) (xpn f a) false = (a, 0) := by
  have hP := fP_ge hf
  have hX := fX_ge hf
  have hpp := Nat.two_pow_pos (fP f - 1)
  have h2p : 2 ^ fP f = 2 * 2 ^ (fP f - 1) := by rw [← Nat.pow_succ', Nat.succ_eq_add_one, Nat.sub_add_cancel (by omega)]
  have hM := mF_lt f a
  have hEl : eF f a < fullF f := Nat.lt_of_le_of_ne (e_le a) hfin
  have hfull : fullF f = 2 * fX f + 1 := by unfold fullF; rw [← fX_eq hf]
  have habs := abs_eq hf a
  have hpat := pat_mk h
  rw [rnd_M hf]
  have key : rndM f m (sF f a) (mant f a) (xpn f a) = (absF f a, 0) := by
    have hbits : ∃ t, topE (mant f a) (xpn f a) = t ∧ t ≤ fX f ∧ lowE f t = xpn f a ∧ xpn f a + (blen (mant f a) : Int) - 1 = t := by
      refine ⟨_, rfl, ?_, ?_, rfl⟩
      · unfold topE xpn
        by_cases he : eF f a = 0
        · have hm : mant f a = mF f a := by unfold mant; rw [if_pos he]
          have := blen_bound (n := mant f a) (k := fP f - 1) (by rw [hm]; exact hM)
          rw [if_pos he]; omega
        · have hm : mant f a = mF f a + 2 ^ (fP f - 1) := by unfold mant; rw [if_neg he]
          have := blen_bound (n := mant f a) (k := fP f) (by rw [hm]; omega)
          rw [if_neg he]; omega
      · unfold lowE topE xpn
        by_cases he : eF f a = 0
        · have hm : mant f a = mF f a := by unfold mant; rw [if_pos he]
          have hb := blen_bound (n := mant f a) (k := fP f - 1) (by rw [hm]; exact hM)
          rw [if_pos he, if_pos (by omega)]; omega
        · have hm : mant f a = mF f a + 2 ^ (fP f - 1) := by unfold mant; rw [if_neg he]
          have hb := blen_bound (n := mant f a) (k := fP f) (by rw [hm]; omega)
          have hb2 := blen_ge (n := mant f a) (k := fP f - 1) (by rw [hm]; omega)
          rw [if_neg he]
          by_cases h1 : eF f a = 1
          · rw [h1]; split <;> omega
          · rw [if_neg (by omega)]; omega
    obtain ⟨t, ht, ht2, hlow, htb⟩ := hbits
    have hcut : cutR (mant f a) (xpn f a) (xpn f a) false = 0 := by rw [cutR_f, rstE_lo (Int.le_refl _)]
    have hcn : cutN m (sF f a) (mant f a) (xpn f a) (xpn f a) false = mant f a := by
      unfold cutN
      rw [if_neg (fun hh => hh.1 hcut), quoE_lo (Int.le_refl _), Int.sub_self]
      simp
    unfold rndM
    rw [ht, if_neg (by omega), hlow]
    dsimp only
    rw [hcn, if_neg (by omega), hcut, if_pos rfl]
    congr 1
    rw [habs]
    unfold xpn mant
    by_cases he : eF f a = 0
    · rw [if_pos he, if_pos he, he, Nat.mul_zero, Int.add_zero, Int.sub_self]
      simp
    · rw [if_neg he, if_neg he]
      rw [show (1 - (fX f : Int) - (fP f : Int) + 1 + ((eF f a : Int) - 1) - (1 - (fX f : Int) - (fP f : Int) + 1)).toNat = eF f a - 1 by omega]
      obtain ⟨k, hk⟩ : ∃ k, eF f a = k + 1 := ⟨eF f a - 1, by omega⟩
      rw [hk, Nat.add_sub_cancel, Nat.mul_add, Nat.mul_one, Nat.mul_comm k]
      omega
  rw [key]
  dsimp only
  rw [← hpat]
end VL
namespace VL
open Go Vx
def qm (f : Int) : Int := 1 - (fX f : Int) - (fP f : Int) + 1
def cutJ (m : Int) (neg : Bool) (n j : Nat) : Nat :=
  if clsR (n % 2 ^ j) j ≠ 0 ∧ furM m neg (decide (n / 2 ^ j % 2 = 1)) (clsR (n % 2 ^ j) j) = true then n / 2 ^ j + 1 else n / 2 ^ j
/-- a number at the least exponent, rounded, as if there were no end -/
def muM (f m : Int) (neg : Bool) (n : Nat) : Nat := if n < 2 ^ fP f then n else (blen n - fP f) * 2 ^ (fP f - 1) + cutJ m neg n (blen n - fP f)
def limM (f m : Int) (neg : Bool) : Nat := if upw m neg then infF f else infF f - 1
theorem cutJ_bound (m : Int) (neg : Bool) (n j : Nat) : n / 2 ^ j ≤ cutJ m neg n j ∧ cutJ m neg n j ≤ n / 2 ^ j + 1 := by
  unfold cutJ; split <;> omega
theorem quo_bound {f : Int} (hf : Fm f) {n : Nat} (h : ¬ n < 2 ^ fP f) : 1 ≤ blen n - fP f ∧ 2 ^ (fP f - 1) ≤ n / 2 ^ (blen n - fP f) ∧ n / 2 ^ (blen n - fP f) < 2 ^ fP f := by
  have hP := fP_ge hf
  have hb := blen_ge (n := n) (k := fP f) (by omega)
  obtain ⟨j, hj⟩ : ∃ j, blen n = fP f + j := ⟨blen n - fP f, by omega⟩
  have h1 := blen_lt n
  have h2 := blen_le (n := n) (by have := Nat.two_pow_pos (fP f); omega)
  rw [hj] at h1 h2 ⊢
  rw [Nat.add_sub_cancel_left]
  refine ⟨by omega, ?_, ?_⟩
  · rw [Nat.le_div_iff_mul_le (Nat.two_pow_pos _), ← Nat.pow_add]
    refine Nat.le_trans (Nat.pow_le_pow_right (by decide) ?_) h2
    omega
  · rw [Nat.div_lt_iff_lt_mul (Nat.two_pow_pos _), ← Nat.pow_add]
    exact h1
theorem two_P {f : Int} (hf : Fm f) : 2 ^ fP f = 2 * 2 ^ (fP f - 1) := by
  have hP := fP_ge hf
  rw [← Nat.pow_succ', Nat.succ_eq_add_one, Nat.sub_add_cancel (by omega)]
theorem rndM_mu {f : Int} (hf : Fm f) (m : Int) (neg : Bool) {n : Nat} (h0 : n ≠ 0) :
    rndM f m neg n (qm f) = if infF f ≤ muM f m neg n then (limM f m neg, 20) else (muM f m neg n, if n < 2 ^ fP f then 0 else if clsR (n % 2 ^ (blen n - fP f)) (blen n - fP f) = 0 then 0 else 16) := by
  have hP := fP_ge hf
  have hX := fX_ge hf
  have h2p := two_P hf
  have hpp := Nat.two_pow_pos (fP f - 1)
  have hinf := inf_ge hf
  have hb1 := blen_pos h0
  have htop : topE n (qm f) = qm f + (blen n : Int) - 1 := rfl
  have hqm : qm f = 1 - (fX f : Int) - (fP f : Int) + 1 := rfl
  unfold rndM
  by_cases h : n < 2 ^ fP f
  · have hb := blen_bound h
    have hlow : lowE f (topE n (qm f)) = qm f := by unfold lowE; split <;> omega
    have hmu : muM f m neg n = n := by unfold muM; rw [if_pos h]
    have hcut : cutR n (qm f) (qm f) false = 0 := by rw [cutR_f, rstE_lo (Int.le_refl _)]
    have hcn : cutN m neg n (qm f) (qm f) false = n := by
      unfold cutN
      rw [if_neg (fun hh => hh.1 hcut), quoE_lo (Int.le_refl _), Int.sub_self]
      simp
    have hlt : 2 * 2 ^ (fP f - 1) ≤ (2 * fX f + 1) * 2 ^ (fP f - 1) := Nat.mul_le_mul_right _ (by omega)
    rw [if_neg (show ¬ topE n (qm f) > fX f by omega), hlow, hmu, if_neg (show ¬ infF f ≤ n by omega)]
    dsimp only
    rw [hcn, if_neg (show ¬ qm f + (blen n : Int) - 1 > fX f by omega), hcut, if_pos rfl, if_pos h, ← hqm, Int.sub_self]
    simp
  · obtain ⟨hj1, hq1, hq2⟩ := quo_bound hf h
    have hblen : (blen n : Int) = (fP f : Int) + ((blen n - fP f : Nat) : Int) := by omega
    obtain ⟨hc1, hc2⟩ := cutJ_bound m neg n (blen n - fP f)
    have hmu : muM f m neg n = (blen n - fP f) * 2 ^ (fP f - 1) + cutJ m neg n (blen n - fP f) := by unfold muM; rw [if_neg h]
    rw [hmu, if_neg h]
    have hlow : lowE f (topE n (qm f)) = qm f + ((blen n - fP f : Nat) : Int) := by unfold lowE; rw [if_neg (by omega)]; omega
    have htiny : ¬ isTiny f m neg n (qm f) false := fun hh => by have := hh.1; omega
    have hcr : cutR n (qm f) (qm f + ((blen n - fP f : Nat) : Int)) false = clsR (n % 2 ^ (blen n - fP f)) (blen n - fP f) := by
      rw [cutR_f, rstE_hi (by omega), show (qm f + ((blen n - fP f : Nat) : Int) - qm f).toNat = blen n - fP f by omega]
    have hcn : cutN m neg n (qm f) (qm f + ((blen n - fP f : Nat) : Int)) false = cutJ m neg n (blen n - fP f) := by
      unfold cutN cutJ
      rw [hcr, quoE_hi (by omega), show (qm f + ((blen n - fP f : Nat) : Int) - qm f).toNat = blen n - fP f by omega]
    rw [hlow]
    dsimp only
    rw [hcn, hcr, show (qm f + ((blen n - fP f : Nat) : Int) - (1 - (fX f : Int) - (fP f : Int) + 1)).toNat = blen n - fP f by omega]
    generalize blen n - fP f = j at *
    generalize cutJ m neg n j = u at *
    generalize n / 2 ^ j = Q at *
    by_cases ht : topE n (qm f) > fX f
    · have hj2 : 2 * fX f + 1 ≤ j + 1 := by omega
      have := Nat.mul_le_mul_right (2 ^ (fP f - 1)) hj2
      rw [Nat.add_mul j, Nat.one_mul] at this
      rw [if_pos ht, if_pos (show infF f ≤ j * 2 ^ (fP f - 1) + u by omega)]
      rfl
    · rw [if_neg ht]
      rcases Nat.lt_or_ge u (2 ^ fP f) with hu | hu
      · have hbu := blen_bound hu
        have hj2 : j + 2 ≤ 2 * fX f + 1 := by omega
        have := Nat.mul_le_mul_right (2 ^ (fP f - 1)) hj2
        rw [Nat.add_mul] at this
        rw [if_neg (show ¬ qm f + (j : Int) + (blen u : Int) - 1 > fX f by omega), if_neg (show ¬ infF f ≤ j * 2 ^ (fP f - 1) + u by omega), if_neg htiny]
      · have hbu := blen_ge hu
        have hbu2 := blen_bound (n := u) (k := fP f + 1) (by rw [Nat.pow_succ]; omega)
        by_cases hj2 : j + 3 ≤ 2 * fX f + 1
        · have := Nat.mul_le_mul_right (2 ^ (fP f - 1)) hj2
          rw [Nat.add_mul] at this
          rw [if_neg (show ¬ qm f + (j : Int) + (blen u : Int) - 1 > fX f by omega), if_neg (show ¬ infF f ≤ j * 2 ^ (fP f - 1) + u by omega), if_neg htiny]
        · have hj3 : 2 * fX f + 1 ≤ j + 2 := by omega
          have := Nat.mul_le_mul_right (2 ^ (fP f - 1)) hj3
          rw [Nat.add_mul j] at this
          rw [if_pos (show qm f + (j : Int) + (blen u : Int) - 1 > fX f by omega), if_pos (show infF f ≤ j * 2 ^ (fP f - 1) + u by omega)]
          rfl
theorem blen_mono {n k : Nat} (h : n ≤ k) : blen n ≤ blen k := blen_bound (Nat.lt_of_le_of_lt h (blen_lt k))
theorem cls_mono {r r' j : Nat} (h : r ≤ r') : clsR r j ≤ clsR r' j := by
  unfold clsR
  generalize 2 ^ (j - 1) = H
  by_cases h0 : r = 0
  · rw [if_pos h0]; exact Nat.zero_le _
  rw [if_neg h0, if_neg (show ¬ r' = 0 by omega)]
  by_cases h1 : r' < H
  · rw [if_pos (show r < H by omega), if_pos h1]; exact Nat.le_refl _
  rw [if_neg h1]
  by_cases h2 : r' = H
  · rw [if_pos h2]
    split
    · decide
    · rw [if_pos (by omega)]; exact Nat.le_refl _
  · rw [if_neg h2]
    split
    · decide
    · split <;> decide
theorem clsR_le (r j : Nat) : clsR r j ≤ 3 := by
  unfold clsR
  split
  · decide
  · split
    · decide
    · split <;> decide
theorem up_mono {m : Int} (hm : 0 ≤ m ∧ m ≤ 5) (neg odd : Bool) {c c' : Nat} (h : c ≤ c') (hc' : c' ≤ 3) (hu : c ≠ 0 ∧ furM m neg odd c = true) : c' ≠ 0 ∧ furM m neg odd c' = true := by
  obtain ⟨h0, h1⟩ := hu
  refine ⟨by omega, ?_⟩
  rcases (show c = 1 ∨ c = 2 ∨ c = 3 by omega) with rfl | rfl | rfl <;> rcases (show c' = 1 ∨ c' = 2 ∨ c' = 3 by omega) with rfl | rfl | rfl <;> rcases mode_cases hm with rfl | rfl | rfl | rfl | rfl | rfl <;> cases neg <;> cases odd <;> first | rfl | (exfalso; omega) | (revert h1; decide)
theorem cutJ_mono {m : Int} (hm : 0 ≤ m ∧ m ≤ 5) (neg : Bool) {n k j : Nat} (h : n ≤ k) : cutJ m neg n j ≤ cutJ m neg k j := by
  have hq : n / 2 ^ j ≤ k / 2 ^ j := Nat.div_le_div_right h
  have h1 := cutJ_bound m neg n j
  have h2 := cutJ_bound m neg k j
  rcases Nat.lt_or_ge (n / 2 ^ j) (k / 2 ^ j) with hlt | hge
  · omega
  · have he : n / 2 ^ j = k / 2 ^ j := by omega
    have hr : n % 2 ^ j ≤ k % 2 ^ j := by
      have a1 := Nat.div_add_mod n (2 ^ j)
      have a2 := Nat.div_add_mod k (2 ^ j)
      rw [he] at a1
      omega
    unfold cutJ
    rw [he]
    have hu := up_mono hm neg (decide (k / 2 ^ j % 2 = 1)) (cls_mono (j := j) hr) (clsR_le _ _)
    split
    · rename_i hh
      rw [if_pos (hu hh)]
      omega
    · split <;> omega
theorem mu_mono {f m : Int} (hf : Fm f) (hm : 0 ≤ m ∧ m ≤ 5) (neg : Bool) {n k : Nat} (h : n ≤ k) : muM f m neg n ≤ muM f m neg k := by
  have h2p := two_P hf
  unfold muM
  by_cases h1 : n < 2 ^ fP f
  · by_cases h2 : k < 2 ^ fP f
    · rw [if_pos h1, if_pos h2]; exact h
    · obtain ⟨hj1, hq1, _⟩ := quo_bound hf h2
      have hc := (cutJ_bound m neg k (blen k - fP f)).1
      have := Nat.mul_le_mul_right (2 ^ (fP f - 1)) hj1
      rw [if_pos h1, if_neg h2]; omega
  · have h2 : ¬ k < 2 ^ fP f := by omega
    obtain ⟨hj1, hq1, hq2⟩ := quo_bound hf h1
    obtain ⟨hj1', hq1', hq2'⟩ := quo_bound hf h2
    have hc := cutJ_bound m neg n (blen n - fP f)
    have hc' := cutJ_bound m neg k (blen k - fP f)
    have hb := blen_mono h
    rw [if_neg h1, if_neg h2]
    rcases Nat.lt_or_ge (blen n - fP f) (blen k - fP f) with hlt | hge
    · have := Nat.mul_le_mul_right (2 ^ (fP f - 1)) hlt
      rw [Nat.succ_eq_add_one, Nat.add_mul] at this
      omega
    · have he : blen n - fP f = blen k - fP f := by omega
      rw [he]
      have := cutJ_mono hm neg (j := blen k - fP f) h
      omega
/-- the place of a rounded whole number of least steps -/
def magI (f m : Int) (neg : Bool) (n : Nat) : Nat := if n = 0 then 0 else (rndM f m neg n (qm f)).1
def plcI (f m : Int) (S : Int) : Int := if S < 0 then -(magI f m true S.natAbs : Int) else (magI f m false S.natAbs : Int)
theorem mag_mono {f m : Int} (hf : Fm f) (hm : 0 ≤ m ∧ m ≤ 5) (neg : Bool) {n k : Nat} (h : n ≤ k) : magI f m neg n ≤ magI f m neg k := by
  unfold magI
  by_cases h0 : n = 0
  · rw [if_pos h0]; exact Nat.zero_le _
  · rw [if_neg h0, if_neg (by omega), rndM_mu hf m neg h0, rndM_mu hf m neg (by omega)]
    have hmm := mu_mono hf hm neg h
    have hp := infF_pos hf
    unfold limM
    by_cases h1 : infF f ≤ muM f m neg n
    · rw [if_pos h1, if_pos (show infF f ≤ muM f m neg k by omega)]
      exact Nat.le_refl _
    · rw [if_neg h1]
      by_cases h2 : infF f ≤ muM f m neg k
      · rw [if_pos h2]
        dsimp only
        split <;> omega
      · rw [if_neg h2]
        exact hmm
theorem plc_mono {f m : Int} (hf : Fm f) (hm : 0 ≤ m ∧ m ≤ 5) {S T : Int} (h : S ≤ T) : plcI f m S ≤ plcI f m T := by
  unfold plcI
  by_cases hS : S < 0
  · rw [if_pos hS]
    by_cases hT : T < 0
    · rw [if_pos hT]
      have := mag_mono hf hm true (n := T.natAbs) (k := S.natAbs) (by omega)
      omega
    · rw [if_neg hT]; omega
  · rw [if_neg hS, if_neg (by omega)]
    have := mag_mono hf hm false (n := S.natAbs) (k := T.natAbs) (by omega)
    omega
end VL
namespace VL
open Go Vx
theorem place_mant {f : Int} (hf : Fm f) {a : Nat} (h : place f a ≠ 0) : mant f a ≠ 0 := fun hm => by
  have habs : absF f a ≠ 0 := fun h0 => h (by unfold place; rw [h0]; cases sF f a <;> rfl)
  have hpp := Nat.two_pow_pos (fP f - 1)
  unfold mant at hm
  split at hm
  · rename_i he
    exact habs ((zero_iff hf a).2 ⟨he, hm⟩)
  · omega
end VL
namespace VL
open Go Vx
/-- a number as whole least steps -/
def vI (f : Int) (neg : Bool) (X : Nat) (e : Int) : Int := bif neg then -((X * 2 ^ (e - qm f).toNat : Nat) : Int) else ((X * 2 ^ (e - qm f).toNat : Nat) : Int)
theorem rnd_qm {f : Int} (hf : Fm f) (m : Int) (neg : Bool) {N : Nat} (hN : N ≠ 0) {e : Int} (he : qm f ≤ e) :
    rndN f m neg N e false = (mkF f neg (rndM f m neg (N * 2 ^ (e - qm f).toNat) (qm f)).1, (rndM f m neg (N * 2 ^ (e - qm f).toNat) (qm f)).2) := by
  have h := rnd_scale (f := f) (m := m) (neg := neg) hf hN (e - qm f).toNat (qm f)
  rw [show qm f + ((e - qm f).toNat : Int) = e by omega] at h
  rw [← h, rnd_M hf]
end VL
namespace VL
open Go Vx
theorem xpn_ge (f : Int) (a : Nat) : qm f ≤ xpn f a := by
  unfold xpn qm
  split <;> omega
/-- six values, the first i of them filled -/
def sl (V : Nat → Int) (i : Nat) : List Int := [if 0 < i then V 0 else 0, if 1 < i then V 1 else 0, if 2 < i then V 2 else 0, if 3 < i then V 3 else 0, if 4 < i then V 4 else 0, if 5 < i then V 5 else 0]
end VL
namespace VL
open Go Vx
def vA (f : Int) (a : Nat) : Int := vI f (sF f a) (mant f a) (xpn f a)
theorem plc_zero (f m : Int) : plcI f m 0 = 0 := by
  unfold plcI magI
  rw [if_neg (by omega)]
  rfl
theorem abs_zero_mant {f : Int} (hf : Fm f) {a : Nat} (h : absF f a = 0) : mant f a = 0 := by
  have h0 := (zero_iff hf a).1 h
  unfold mant; rw [if_pos h0.1]; exact h0.2
theorem self_plc {f : Int} (hf : Fm f) {a : Nat} (ha : chk f a = 0) (fa : eF f a ≠ fullF f) : place f a = plcI f 0 (vA f a) := by
  by_cases h0 : mant f a = 0
  · have hv : vA f a = 0 := by
      unfold vA vI; rw [h0, Nat.zero_mul]; cases sF f a <;> rfl
    rw [hv, plc_zero]
    by_cases hp : place f a = 0
    · exact hp
    · exact absurd h0 (place_mant hf hp)
  · have hr := rnd_self (m := 0) hf ha fa h0
    rw [rnd_qm hf 0 (sF f a) h0 (xpn_ge f a)] at hr
    have h1 : mkF f (sF f a) (rndM f 0 (sF f a) (mant f a * 2 ^ (xpn f a - qm f).toNat) (qm f)).1 = a := congrArg Prod.fst hr
    have hn0 : mant f a * 2 ^ (xpn f a - qm f).toNat ≠ 0 := Nat.ne_of_gt (Nat.mul_pos (by omega) (Nat.two_pow_pos _))
    have hle := rndM_le hf 0 (sF f a) (mant f a * 2 ^ (xpn f a - qm f).toNat) (qm f)
    have h2 : place f a = place f (mkF f (sF f a) (rndM f 0 (sF f a) (mant f a * 2 ^ (xpn f a - qm f).toNat) (qm f)).1) := by rw [h1]
    rw [h2, mk_place _ (Nat.lt_of_le_of_lt hle (infF_lt hf))]
    unfold vA vI plcI magI
    generalize mant f a * 2 ^ (xpn f a - qm f).toNat = n at *
    cases sF f a
    · simp only [cond_false]
      rw [if_neg (show ¬ ((n : Int) < 0) by omega), Int.natAbs_natCast, if_neg hn0]
    · simp only [cond_true]
      rw [if_pos (show (-(n : Int) < 0) by omega), Int.natAbs_neg, Int.natAbs_natCast, if_neg hn0]
theorem place_abs (f : Int) (a : Nat) : (place f a).natAbs = absF f a := by
  unfold place; cases sF f a <;> simp
theorem same_val {f : Int} (hf : Fm f) {a b : Nat} (h : place f a = place f b) : vA f a = vA f b := by
  have habs : absF f a = absF f b := by rw [← place_abs, ← place_abs, h]
  by_cases h0 : absF f a = 0
  · have e1 := abs_zero_mant hf h0
    have e2 := abs_zero_mant hf (habs ▸ h0)
    unfold vA vI
    rw [e1, e2, Nat.zero_mul, Nat.zero_mul]
    cases sF f a <;> cases sF f b <;> rfl
  · have hs : sF f a = sF f b := by
      unfold place at h
      rw [habs] at h h0
      cases h1 : sF f a <;> cases h2 : sF f b <;> rw [h1, h2] at h <;> simp only [cond_true, cond_false] at h <;> first | rfl | omega
    have he : eF f a = eF f b := by rw [eF_abs hf, eF_abs hf, habs]
    have hm : mF f a = mF f b := by rw [mF_abs hf, mF_abs hf, habs]
    unfold vA mant xpn
    rw [hs, he, hm]
end VL
namespace VL
open Go Vx
/-- bounds that the additions keep -/
def Bd (f : Int) (n : Nat) (e : Int) : Prop := qm f ≤ e ∧ e ≤ 6000 ∧ n * 2 ^ (e - qm f).toNat < 2 ^ 5000
theorem Bd.lt {f : Int} {n : Nat} {e : Int} (h : Bd f n e) : n < 2 ^ 5000 := by
  have := Nat.le_mul_of_pos_right n (Nat.two_pow_pos (e - qm f).toNat)
  exact Nat.lt_of_le_of_lt this h.2.2
end VL
namespace VL
open Go Vx
/-- a fact that omega doesn't look into -/
structure Hid (p : Prop) : Prop where
  out : p
end VL
namespace VL
open Go Vx
theorem set_same {l : List Nat} {j v : Nat} (hj : j < l.length) (h : l.getD j 0 = v) : l.set j v = l := by
  rw [List.getD_eq_getElem?_getD, List.getElem?_eq_getElem hj, Option.getD_some] at h
  subst h
  exact List.set_getElem_self hj
end VL
namespace VL
open Go Vx
/-- the format of a kind of floats -/
def fk : FloatKind → Int
  | .f32 => 2
  | .f64 => 3
theorem fk_ok (k : FloatKind) : Fm (fk k) := by cases k <;> exact ⟨by decide, by decide⟩
theorem fk_sgn (k : FloatKind) : k.format.signWeight = 2 ^ (fW (fk k) - 1) := by cases k <;> rfl
theorem fk_bin (k : FloatKind) : k.format.binade = 2 ^ (fP (fk k) - 1) := by cases k <;> rfl
theorem fk_inf (k : FloatKind) : k.format.infRung = infF (fk k) := by cases k <;> rfl
theorem fk_low (k : FloatKind) : k.format.leastPlace = qm (fk k) := by cases k <;> rfl
theorem abs_parts {f : Int} (hf : Fm f) (a : Nat) : absF f a % 2 ^ (fP f - 1) = mF f a ∧ absF f a / 2 ^ (fP f - 1) = eF f a := by
  rw [abs_eq hf, Nat.add_mul_mod_self_left, Nat.mod_eq_of_lt (mF_lt f a), Nat.add_mul_div_left _ _ (Nat.two_pow_pos _), Nat.div_eq_of_lt (mF_lt f a), Nat.zero_add]
  exact ⟨rfl, rfl⟩
/-- what a word stands for -/
theorem read_eq (k : FloatKind) {a : Nat} (h : chk (fk k) a = 0) :
    k.format.read a = if eF (fk k) a = fullF (fk k) then (if mF (fk k) a = 0 then .infinity (sF (fk k) a) else .nan (sF (fk k) a) (mF (fk k) a)) else .number (sF (fk k) a) (mant (fk k) a) (xpn (fk k) a) := by
  obtain ⟨hf, h0⟩ := chk_zero h
  have hneg : (a / k.format.signWeight % 2 == 1) = sF (fk k) a := by rw [fk_sgn]; exact sgn_eq h
  have hab : a % k.format.signWeight = absF (fk k) a := by rw [fk_sgn]; rfl
  obtain ⟨p1, p2⟩ := abs_parts hf a
  have he := abs_eq hf a
  have hm := mF_lt (fk k) a
  have hpp := Nat.two_pow_pos (fP (fk k) - 1)
  have hfull := full_pos hf
  have hel : eF (fk k) a ≤ fullF (fk k) := by
    have := Nat.mod_lt (a / 2 ^ (fP (fk k) - 1)) (Nat.two_pow_pos (fW (fk k) - fP (fk k)))
    unfold eF fullF
    omega
  unfold Ieee.Format.read
  dsimp only
  rw [hneg, hab, fk_bin, fk_inf, fk_low]
  unfold infF
  by_cases h1 : eF (fk k) a = fullF (fk k)
  · rw [if_pos h1]
    rw [h1] at he
    have hge : 2 ^ (fP (fk k) - 1) * 1 ≤ 2 ^ (fP (fk k) - 1) * fullF (fk k) := Nat.mul_le_mul_left _ hfull
    rw [if_neg (by omega), if_neg (by omega)]
    by_cases h2 : mF (fk k) a = 0
    · rw [if_pos h2, if_pos (by omega)]
    · rw [if_neg h2, if_neg (by omega)]
      congr 1
      omega
  · rw [if_neg h1]
    unfold mant xpn
    by_cases h2 : eF (fk k) a = 0
    · rw [h2, Nat.mul_zero, Nat.add_zero] at he
      rw [if_pos (by omega), if_pos h2, if_pos h2, he, Int.add_zero]
      rfl
    · have h3 : 2 ^ (fP (fk k) - 1) * 1 ≤ 2 ^ (fP (fk k) - 1) * eF (fk k) a := Nat.mul_le_mul_left _ (by omega)
      have h4 : 2 ^ (fP (fk k) - 1) * (eF (fk k) a + 1) ≤ 2 ^ (fP (fk k) - 1) * fullF (fk k) := Nat.mul_le_mul_left _ (by omega)
      rw [Nat.mul_add, Nat.mul_one] at h4
      rw [if_neg (by omega), if_pos (by omega), if_neg h2, if_neg h2, p1, p2, Nat.add_comm]
      congr 1
      unfold qm
      omega
/-- places stand as values do -/
theorem place_val {f : Int} (hf : Fm f) {a b : Nat} (ha : chk f a = 0) (hb : chk f b = 0) (fa : eF f a ≠ fullF f) (fb : eF f b ≠ fullF f) : (place f a < place f b ↔ vA f a < vA f b) ∧ (place f a = place f b ↔ vA f a = vA f b) := by
  have key : ∀ {a b : Nat}, chk f a = 0 → chk f b = 0 → eF f a ≠ fullF f → eF f b ≠ fullF f → vA f a ≤ vA f b → place f a ≤ place f b := fun {a b} ha hb fa fb h => by
    rw [self_plc hf ha fa, self_plc hf hb fb]
    exact plc_mono hf (by decide) h
  have heq : place f a = place f b → vA f a = vA f b := same_val hf
  have h1 := fun h => key ha hb fa fb h
  have h2 := fun h => key hb ha fb fa h
  refine ⟨⟨fun h => ?_, fun h => ?_⟩, ⟨heq, fun h => ?_⟩⟩
  · rcases Int.lt_or_le (vA f a) (vA f b) with g | g
    · exact g
    · have := h2 g; omega
  · rcases Int.lt_or_le (place f a) (place f b) with g | g
    · exact g
    · have g1 := h1 (Int.le_of_lt h)
      have := heq (by omega)
      omega
  · have g1 := h1 (by omega)
    have g2 := h2 (by omega)
    omega
theorem signed_val (f : Int) (s : Bool) (m : Nat) {e q : Int} (h1 : qm f ≤ q) (h2 : q ≤ e) : Ieee.signed s m (e - q).toNat * (2 ^ (q - qm f).toNat : Nat) = vI f s m e := by
  unfold Ieee.signed vI
  have hm : m * 2 ^ (e - q).toNat * 2 ^ (q - qm f).toNat = m * 2 ^ (e - qm f).toNat := by
    rw [Nat.mul_assoc, ← Nat.pow_add]; congr 2; omega
  rw [Nat.shiftLeft_eq]
  cases s
  · rw [if_neg (by decide), cond_false, ← hm]
    simp only [Int.natCast_mul]
  · rw [if_pos rfl, cond_true, ← hm]
    simp only [Int.natCast_mul, Int.neg_mul]
theorem compare_iff {x y z w : Int} (h1 : x < y ↔ z < w) (h2 : x = y ↔ z = w) : compare x y = compare z w := by
  show compareOfLessAndEq x y = compareOfLessAndEq z w
  unfold compareOfLessAndEq
  by_cases g1 : x < y
  · rw [if_pos g1, if_pos (h1.1 g1)]
  · have g3 : ¬ z < w := fun h => g1 (h1.2 h)
    rw [if_neg g1, if_neg g3]
    by_cases g2 : x = y
    · rw [if_pos g2, if_pos (h2.1 g2)]
    · have g4 : ¬ z = w := fun h => g2 (h2.2 h)
      rw [if_neg g2, if_neg g4]
theorem compare_mul (x y : Int) {c : Nat} (hc : 0 < c) : compare x y = compare (x * (c : Int)) (y * (c : Int)) := by
  have hc' : (0 : Int) < (c : Int) := by omega
  exact compare_iff ⟨fun h => Int.mul_lt_mul_of_pos_right h hc', fun h => Int.lt_of_mul_lt_mul_right h (by omega)⟩ ⟨fun h => by rw [h], fun h => Int.eq_of_mul_eq_mul_right (by omega) h⟩
theorem cmp_lt {x y : Int} (h : x < y) : compare x y = .lt := by
  show compareOfLessAndEq x y = _
  unfold compareOfLessAndEq
  rw [if_pos h]
theorem cmp_eq (x : Int) : compare x x = .eq := by
  show compareOfLessAndEq x x = _
  unfold compareOfLessAndEq
  rw [if_neg (Int.lt_irrefl x), if_pos rfl]
theorem cmp_gt {x y : Int} (h : y < x) : compare x y = .gt := by
  have h1 : ¬ x < y := by omega
  have h2 : ¬ x = y := by omega
  show compareOfLessAndEq x y = _
  unfold compareOfLessAndEq
  rw [if_neg h1, if_neg h2]
theorem place_full {f : Int} (hf : Fm f) {a : Nat} (h1 : eF f a = fullF f) (h2 : mF f a = 0) : place f a = bif sF f a then -(infF f : Int) else infF f := by
  unfold place infF
  rw [abs_eq hf, h1, h2, Nat.zero_add]
theorem place_part {f : Int} (hf : Fm f) {a : Nat} (h1 : eF f a ≠ fullF f) : -(infF f : Int) < place f a ∧ place f a < infF f := by
  have hel : eF f a ≤ fullF f := by
    have := Nat.mod_lt (a / 2 ^ (fP f - 1)) (Nat.two_pow_pos (fW f - fP f))
    unfold eF fullF
    omega
  have he := abs_eq hf a
  have hm := mF_lt f a
  have h4 : 2 ^ (fP f - 1) * (eF f a + 1) ≤ 2 ^ (fP f - 1) * fullF f := Nat.mul_le_mul_left _ (by omega)
  rw [Nat.mul_add, Nat.mul_one] at h4
  unfold place infF
  cases sF f a <;> simp only [cond_true, cond_false] <;> omega
/-- how two words stand to each other -/
theorem order_eq (k : FloatKind) {a b : Nat} (ha : chk (fk k) a = 0) (hb : chk (fk k) b = 0) :
    k.format.order a b = if nan (fk k) a || nan (fk k) b then none else some (compare (place (fk k) a) (place (fk k) b)) := by
  have hf := fk_ok k
  unfold Ieee.Format.order
  rw [read_eq k ha, read_eq k hb]
  have hpos := infF_pos hf
  by_cases fa : eF (fk k) a = fullF (fk k)
  · rw [if_pos fa]
    by_cases ma : mF (fk k) a = 0
    · have na : nan (fk k) a = false := by unfold nan; simp [ma]
      have pa := place_full hf fa ma
      rw [if_pos ma, na, Bool.false_or]
      by_cases fb : eF (fk k) b = fullF (fk k)
      · rw [if_pos fb]
        by_cases mb : mF (fk k) b = 0
        · have nb : nan (fk k) b = false := by unfold nan; simp [mb]
          have pb := place_full hf fb mb
          rw [if_pos mb, nb, pa, pb]
          show some (compare (sF (fk k) b).toNat (sF (fk k) a).toNat) = some _
          cases sF (fk k) a <;> cases sF (fk k) b <;> simp only [cond_true, cond_false]
          · rw [cmp_eq]; rfl
          · rw [cmp_gt (by omega)]; rfl
          · rw [cmp_lt (by omega)]; rfl
          · rw [cmp_eq]; rfl
        · have nb : nan (fk k) b = true := by unfold nan; simp [mb, fb]
          rw [if_neg mb, nb]; rfl
      · have nb : nan (fk k) b = false := (part_vals fb).1
        have pb := place_part hf fb
        rw [if_neg fb, nb, pa]
        show some (if sF (fk k) a = true then Ordering.lt else .gt) = some _
        cases sF (fk k) a <;> simp only [cond_true, cond_false]
        · rw [cmp_gt pb.2]; rfl
        · rw [cmp_lt pb.1]; rfl
    · have na : nan (fk k) a = true := by unfold nan; simp [ma, fa]
      rw [if_neg ma, na]; rfl
  · have na : nan (fk k) a = false := (part_vals fa).1
    have pa := place_part hf fa
    rw [if_neg fa, na, Bool.false_or]
    by_cases fb : eF (fk k) b = fullF (fk k)
    · rw [if_pos fb]
      by_cases mb : mF (fk k) b = 0
      · have nb : nan (fk k) b = false := by unfold nan; simp [mb]
        have pb := place_full hf fb mb
        rw [if_pos mb, nb, pb]
        show some (if sF (fk k) b = true then Ordering.gt else .lt) = some _
        cases sF (fk k) b <;> simp only [cond_true, cond_false]
        · rw [cmp_lt pa.2]; rfl
        · rw [cmp_gt pa.1]; rfl
      · have nb : nan (fk k) b = true := by unfold nan; simp [mb, fb]
        rw [if_neg mb, nb]; rfl
    · have nb : nan (fk k) b = false := (part_vals fb).1
      rw [if_neg fb, nb]
      show some (compare (Ieee.signed (sF (fk k) a) (mant (fk k) a) (xpn (fk k) a - min (xpn (fk k) a) (xpn (fk k) b)).toNat) (Ieee.signed (sF (fk k) b) (mant (fk k) b) (xpn (fk k) b - min (xpn (fk k) a) (xpn (fk k) b)).toNat)) = some _
      congr 1
      have g1 := xpn_ge (fk k) a
      have g2 := xpn_ge (fk k) b
      have hb1 : qm (fk k) ≤ min (xpn (fk k) a) (xpn (fk k) b) := by omega
      rw [compare_mul _ _ (Nat.two_pow_pos (min (xpn (fk k) a) (xpn (fk k) b) - qm (fk k)).toNat), signed_val (fk k) _ _ hb1 (by omega), signed_val (fk k) _ _ hb1 (by omega)]
      obtain ⟨c1, c2⟩ := place_val hf ha hb fa fb
      exact (compare_iff c1 c2).symm
/-- the machine's own comparisons, as the program numbers them -/
theorem relation_eq (k : FloatKind) {a b : Nat} (ha : chk (fk k) a = 0) (hb : chk (fk k) b = 0) (s : Bool) :
    (bif flord k (some a) (some b) == some .lt then (0 : Int) else bif flord k (some a) (some b) == some .eq then 1 else bif flord k (some a) (some b) == some .gt then 2 else 3) = (cmpF (fk k) a b s).1 := by
  have hc : chk2 (fk k) a b = 0 := by unfold chk2; rw [ha, hb]; rfl
  have ho : flord k (some a) (some b) = k.format.order a b := rfl
  unfold cmpF
  rw [ho, order_eq k ha hb, if_neg (show ¬ chk2 (fk k) a b ≠ 0 from fun h => h hc)]
  cases nan (fk k) a || nan (fk k) b
  · rw [if_neg Bool.false_ne_true, cond_false]
    rcases Int.lt_trichotomy (place (fk k) a) (place (fk k) b) with h | h | h
    · rw [cmp_lt h, if_pos h]; rfl
    · rw [h, cmp_eq, if_neg (Int.lt_irrefl _), if_neg (Int.lt_irrefl _)]; rfl
    · have h1 : ¬ place (fk k) a < place (fk k) b := by omega
      rw [cmp_gt h, if_neg h1, if_pos h]; rfl
  · rw [if_pos rfl]; rfl
end VL
namespace VL
open Go Vx
theorem T13_eq {a b : Nat} (ha : chk 3 a = 0) (hb : chk 3 b = 0) (s : Bool) : T13 (some a, some b, ()) = some ((cmpF 3 a b s).1, ()) := by
  have h := relation_eq .f64 (a := a) (b := b) ha hb s
  have h : _ = (cmpF 3 a b s).1 := h
  rw [← h]
  show t13 (some a) (some b) = _
  unfold t13
  cases flord .f64 (some a) (some b) == some .lt <;> cases flord .f64 (some a) (some b) == some .eq <;> cases flord .f64 (some a) (some b) == some .gt <;> rfl
theorem T15_eq {a b : Nat} (ha : chk 2 a = 0) (hb : chk 2 b = 0) (s : Bool) : T15 (some a, some b, ()) = some ((cmpF 2 a b s).1, ()) := by
  have h := relation_eq .f32 (a := a) (b := b) ha hb s
  have h : _ = (cmpF 2 a b s).1 := h
  rw [← h]
  show t15 (some a) (some b) = _
  unfold t15
  cases flord .f32 (some a) (some b) == some .lt <;> cases flord .f32 (some a) (some b) == some .eq <;> cases flord .f32 (some a) (some b) == some .gt <;> rfl
theorem chk_dbl {a : Nat} (h : a < 2 ^ 64) : chk 3 a = 0 := chk_ok (show Fm 3 from ⟨by decide, by decide⟩) h
theorem chk_sgl {a : Nat} (h : a < 2 ^ 32) : chk 2 a = 0 := chk_ok (show Fm 2 from ⟨by decide, by decide⟩) h
theorem cmp_err {f : Int} {a b : Nat} (ha : chk f a = 0) (hb : chk f b = 0) (s : Bool) : (cmpF f a b s).2.2.1 = 0 := by
  have hc : chk2 f a b = 0 := by unfold chk2; rw [ha, hb]; rfl
  unfold cmpF
  rw [if_neg (show ¬ chk2 f a b ≠ 0 from fun h => h hc)]
  cases nan f a || nan f b
  · rw [cond_false]
    split
    · rfl
    · split <;> rfl
  · rfl
theorem wrap32 (a : Nat) : IntKind.wrap .u32 (a : Int) = ((a % 2 ^ 32 : Nat) : Int) := by
  show (a : Int) % 4294967296 = _
  omega
theorem T3_true {a b : Nat} (ha : a < 2 ^ 64) (hb : b < 2 ^ 64) : T3 ((a : Int), (b : Int), ()) = some (true, ()) := by
  show t3 S11.pre S11.F S12.pre S12.F (fun _ => true) (fun x => (some x.1.toNat, ())) S13.pre S13.F (fun _ => true) (fun x => (some x.1.toNat, ())) S15.pre S15.F a b = _
  unfold t3
  have ha2 : a % 2 ^ 32 < 2 ^ 32 := Nat.mod_lt _ (by decide)
  have hb2 : b % 2 ^ 32 < 2 ^ 32 := Nat.mod_lt _ (by decide)
  have c1 := T11_eq (f := 3) ha hb false
  have c2 := T11_eq (f := 2) (a := a % 2 ^ 32) (b := b % 2 ^ 32) (by omega) (by omega) true
  have r1 := T13_eq (chk_dbl ha) (chk_dbl hb) false
  have r2 := T15_eq (chk_sgl ha2) (chk_sgl hb2) true
  have k1 := cmp_err (chk_dbl ha) (chk_dbl hb) false
  have k2 := cmp_err (chk_sgl ha2) (chk_sgl hb2) true
  have e1 : IntKind.wrap .u64 ((a % 2 ^ 32 : Nat) : Int) = ((a % 2 ^ 32 : Nat) : Int) := wu_id _ (by omega)
  have e2 : IntKind.wrap .u64 ((b % 2 ^ 32 : Nat) : Int) = ((b % 2 ^ 32 : Nat) : Int) := wu_id _ (by omega)
  simp only [wrap32, e1, e2, pre11 c1, fun11 c1, pre11 c2, fun11 c2, pre12 t12_true, fun12 t12_true, cond_true, Bool.not_true, k1, k2, bne_self_eq_false, Bool.or_self, cond_false, Int.toNat_natCast, pre13 r1, fun13 r1, pre15 r2, fun15 r2, Bool.true_or, beq_self_eq_true, Bool.and_self]
end VL
namespace Vx
open Go Go.RowKit Go.ChangeShapes Go.WideShapes
/-- numbers in their ranges, lengths below 2^63 -/
def wfD : (τ : Shape) → Den τ → Prop
  | .int k, n => k.min ≤ n ∧ n ≤ k.max
  | .flt _, _ => True
  | .slice e, xs => xs.length < lim ∧ ∀ x ∈ xs, wfD e x
  | .pair a b, x => wfD a x.1 ∧ wfD b x.2
  | .bool, _ => True
  | .str, _ => True
  | .fn, _ => True
  | .unit, _ => True
theorem DRep.wfD {w : World} {S : Nat → Prop} : ∀ {τ : Shape} {x : Den τ} {cs : List Value}, DRep w S τ x cs → wfD τ x
  | .int _, _, _, h => h.2
  | .flt _, _, _, _ => trivial
  | .bool, _, _, _ => trivial
  | .str, _, _, _ => trivial
  | .fn, _, _, _ => trivial
  | .unit, _, _, _ => trivial
  | .slice _, xs, _, ⟨A, c, _, h1, h2, h3⟩ => by
    refine ⟨Nat.lt_of_le_of_lt h1 h2, fun x hx => ?_⟩
    obtain ⟨r, o, vs, T, fz, _, _, _, h⟩ := h3 (List.ne_nil_of_mem hx)
    obtain ⟨i, hi⟩ := List.getElem?_of_mem hx
    obtain ⟨ds, hd, _⟩ := h i x hi
    exact hd.wfD
  | .pair _ _, _, _, ⟨c1, c2, _, h1, h2⟩ => ⟨h1.wfD, h2.wfD⟩
def wfS : (sg : Sig) → DenS sg → Prop
  | [], _ => True
  | (_, τ) :: r, x => wfD τ x.1 ∧ wfS r x.2
/-- what a datum says -/
def undat {H : Type} : (τ : Shape) → (DataW H → Option (Den τ)) × (List (DataW H) → Option (Den τ))
  | .int k => (fun d => match d with | .lit (.int k' n) => if k' = k then some n else none | _ => none, fun _ => none)
  | .bool => (fun d => match d with | .lit (.bool b) => some b | _ => none, fun _ => none)
  | .unit => (fun d => match d with | .agg [] => some () | _ => none, fun l => match l with | [] => some () | _ => none)
  | .pair a b =>
    let f := fun l => match l with
      | d :: r => (match (undat a).1 d, (undat b).2 r with | some x, some y => some (x, y) | _, _ => none)
      | [] => none
    (fun d => match d with | .agg l => f l | _ => none, f)
  | .flt _ => (fun _ => none, fun _ => none)
  | .str => (fun _ => none, fun _ => none)
  | .fn => (fun _ => none, fun _ => none)
  | .slice _ => (fun _ => none, fun _ => none)
/-- a type's shape -/
def fitF (P : Program) (g : TypeId → Shape → Bool) : List Field → Nat → Shape → Bool
  | [], _, .unit => true
  | f :: fs, o, .pair a b => (f.offset == o) && (P.cellsOf f.type == a.width) && g f.type a && fitF P g fs (o + a.width) b
  | _, _, _ => false
def fitB (P : Program) : Nat → TypeId → Shape → Bool
  | 0, _, _ => false
  | n + 1, t, τ => match P.underlying t with
    | some (.int k) => (match τ with | .int k' => decide (k = k') | _ => false)
    | some .bool => (match τ with | .bool => true | _ => false)
    | some (.slice e) => (match τ with | .slice σ => (P.cellsOf e == σ.width) && decide (0 < σ.width) && fitB P n e σ | _ => false)
    | some (.struct fs) => (P.cellsOf t == τ.width) && fitF P (fitB P n) fs.toList 0 τ
    | _ => false
theorem choose_list {A : Type} {Q : Nat → A → Prop} : ∀ (n : Nat), (∀ i, i < n → ∃ x, Q i x) → ∃ xs : List A, xs.length = n ∧ ∀ i x, xs[i]? = some x → Q i x
  | 0, _ => ⟨[], rfl, fun i x h => by simp at h⟩
  | n + 1, h => by
    obtain ⟨xs, h1, h2⟩ := choose_list n fun i hi => h i (by omega)
    obtain ⟨x, hx⟩ := h n (by omega)
    refine ⟨xs ++ [x], by simp [h1], fun i y hy => ?_⟩
    rcases Nat.lt_or_ge i n with hi | hi
    · rw [List.getElem?_append_left (by omega)] at hy
      exact h2 i y hy
    · rw [List.getElem?_append_right (by omega)] at hy
      have : i = n := by
        have := (List.getElem?_eq_some_iff.1 hy).1
        simp at this; omega
      subst this
      simp [h1] at hy
      exact hy ▸ hx
theorem wf_int {k : IntKind} {n : Int} (h : (Lit.int k n).wf = true) : k.min ≤ n ∧ n ≤ k.max := by
  simpa [Lit.wf] using h
section
variable {H : Type} {enc : TypeId × Value → H} {P : Program} {W : World} {spare : Nat → Bool} {held : Bool}
theorem fitF_ok {n : Nat} {m : Nat} {cs : List Value} (ih : ∀ (t : TypeId) (τ : Shape) (cs : List Value) (d : DataW H) (p : List MemPlace), fitB P n t τ = true → DataW.trod enc P W 0 spare held m t cs = some (d, p) → ∃ x : Den τ, DRep W (fun q => q < W.heap.size) τ x cs ∧ ∀ y, (undat τ).1 d = some y → x = y) :
    ∀ (l : List Field) (o : Nat) (τ : Shape) (xs : List (DataW H × List MemPlace)), fitF P (fitB P n) l o τ = true → xs.length = l.length → cs.length = o + τ.width →
      (∀ (i : Nat) (f : Field), l[i]? = some f → DataW.trod enc P W 0 spare held m f.type ((cs.drop f.offset).take (P.cellsOf f.type)) = xs[i]?) →
      ∃ x : Den τ, DRep W (fun q => q < W.heap.size) τ x (cs.drop o) ∧ ∀ y, (undat τ).2 (xs.map (·.1)) = some y → x = y
  | [], o, τ, xs, hf, hx, hl, _ => by
    cases τ <;> simp [fitF] at hf
    refine ⟨(), ?_, fun _ _ => rfl⟩
    show cs.drop o = []
    apply List.drop_eq_nil_of_le
    simp [Shape.width] at hl
    omega
  | f :: fs, o, τ, xs, hf, hx, hl, h => by
    cases τ with
    | pair a b =>
      simp only [fitF, Bool.and_eq_true, beq_iff_eq] at hf
      obtain ⟨⟨⟨ho, hc⟩, hg⟩, hr⟩ := hf
      cases xs with
      | nil => simp at hx
      | cons x0 xs =>
        have h0 := h 0 f rfl
        rw [ho, hc] at h0
        simp only [List.getElem?_cons_zero] at h0
        obtain ⟨xa, ha, hua⟩ := ih f.type a _ x0.1 x0.2 hg h0
        simp only [Shape.width] at hl
        obtain ⟨xb, hb, hub⟩ := fitF_ok ih fs (o + a.width) b xs hr (by simpa using hx) (by rw [hl]; omega) fun i g hi => by
          have := h (i + 1) g (by simpa using hi)
          simpa using this
        refine ⟨(xa, xb), ⟨(cs.drop o).take a.width, cs.drop (o + a.width), ?_, ha, hb⟩, fun y hy => ?_⟩
        · rw [← List.drop_drop, List.take_append_drop]
        · simp only [undat, List.map_cons] at hy
          split at hy
          · rename_i e1 e2
            have := hua _ e1; have := hub _ e2
            subst_vars
            exact Option.some.inj hy
          · cases hy
    | _ => simp [fitF] at hf
theorem fit_ok : ∀ (n : Nat) (m : Nat) (t : TypeId) (τ : Shape) (cs : List Value) (d : DataW H) (p : List MemPlace), fitB P n t τ = true → DataW.trod enc P W 0 spare held m t cs = some (d, p) →
    ∃ x : Den τ, DRep W (fun q => q < W.heap.size) τ x cs ∧ ∀ y, (undat τ).1 d = some y → x = y
  | 0, _, _, _, _, _, _, h, _ => by simp [fitB] at h
  | n + 1, m, t, τ, cs, d, p, h, ht => by
    unfold fitB at h
    split at h
    · rename_i k hk
      cases τ with
      | int k' =>
        simp only [decide_eq_true_eq] at h
        subst h
        obtain ⟨v, hv, hx, hw⟩ := DataW.trod_int hk ht
        simp only [Prod.mk.injEq] at hx
        refine ⟨v, ⟨hv, wf_int hw⟩, fun y hy => ?_⟩
        rw [hx.1] at hy
        simp only [undat, if_true] at hy
        exact Option.some.inj hy
      | _ => cases h
    · rename_i hk
      cases τ with
      | bool =>
        obtain ⟨v, hv, hx⟩ := DataW.trod_bool hk ht
        simp only [Prod.mk.injEq] at hx
        refine ⟨v, hv, fun y hy => ?_⟩
        rw [hx.1] at hy
        simp only [undat] at hy
        exact Option.some.inj hy
      | _ => cases h
    · rename_i e hk
      cases τ with
      | slice σ =>
        simp only [Bool.and_eq_true, beq_iff_eq, decide_eq_true_eq] at h
        obtain ⟨⟨hc, hpos⟩, hf⟩ := h
        rcases DataW.trod_slice hk ht with ⟨hcs, hx⟩ | ⟨a, len, cap, elems, rest, m', rfl, hcs, hx, hb, hlc, hcap, hlen, hel, _⟩
        · exact ⟨[], ⟨none, 0, hcs, Nat.le_refl _, by decide, fun h => absurd rfl h⟩, fun y hy => by simp [undat] at hy⟩
        · have each : ∀ i, i < len → ∃ x : Den σ, ∃ ds, W.cells? 0 (a.add (i * P.cellsOf e)) (P.cellsOf e) = some ds ∧ DRep W (fun q => q < W.heap.size) σ x ds := fun i hi => by
            have := hel i hi
            rw [List.getElem?_eq_getElem (by omega), Option.bind_eq_some_iff] at this
            obtain ⟨ds, h1, h2⟩ := this
            obtain ⟨x, hx, _⟩ := fit_ok n m' e σ ds (elems[i]'(by omega)).1 (elems[i]'(by omega)).2 hf h2
            exact ⟨x, ds, h1, hx⟩
          obtain ⟨xs, hxl, hxs⟩ := choose_list len each
          refine ⟨xs, ⟨some a, cap, by rw [hxl]; exact hcs, by omega, by unfold lim; unfold maxLen at hcap; omega, fun hne => ?_⟩, fun y hy => by simp [undat] at hy⟩
          have h0 : 0 < xs.length := List.length_pos_iff.2 hne
          obtain ⟨ds0, hd0, _⟩ := hxs 0 xs[0] (List.getElem?_eq_getElem h0)
          obtain ⟨_, hl0, hc0⟩ := World.cells?_some hd0
          have hz : a.add (0 * P.cellsOf e) = a := by simp [Addr.add]
          have hz' : a.add 0 = a := by simp [Addr.add]
          rw [hz] at hc0
          have hc00 := hc0 0 (by omega)
          rw [hz', List.getElem?_eq_getElem (by omega)] at hc00
          unfold World.cell? at hc00
          split at hc00
          · rename_i c T fz hheap
            split at hc00
            · cases hc00
            · rename_i hspot
              have hs : a.spot = none := by simpa using hspot
              have hadd : ∀ q, a.add q = ⟨a.block, a.off + q, none⟩ := fun q => by
                unfold Addr.add
                split
                · subst_vars; cases a; simp at hs; simp [hs]
                · rfl
              have ha : a = ⟨a.block, a.off, none⟩ := by cases a; simp at hs; simp [hs]
              refine ⟨a.block, a.off, c, T, fz, by rw [← ha], ?_, hheap, fun i x hi => ?_⟩
              · exact (Array.getElem?_eq_some_iff.1 hheap).1
              · obtain ⟨ds, hd, hr⟩ := hxs i x hi
                refine ⟨ds, hr, fun j v hj => ?_⟩
                obtain ⟨_, hl, hcj⟩ := World.cells?_some hd
                have hjl : j < P.cellsOf e := by rw [← hl]; exact (List.getElem?_eq_some_iff.1 hj).1
                have := hcj j hjl
                rw [hadd, hj] at this
                have hadd2 : (⟨a.block, a.off + i * P.cellsOf e, none⟩ : Addr).add j = ⟨a.block, a.off + i * P.cellsOf e + j, none⟩ := by
                  unfold Addr.add
                  split
                  · subst_vars; rfl
                  · rfl
                rw [hadd2] at this
                unfold World.cell? at this
                simp only [hheap] at this
                rw [hc] at this
                exact this
          · cases hc00
      | _ => cases h
    · rename_i fs hk
      simp only [Bool.and_eq_true, beq_iff_eq] at h
      obtain ⟨hc, hf⟩ := h
      obtain ⟨xs, m', rfl, hx, hl, hxl, hel⟩ := DataW.trod_struct hk ht
      simp only [Prod.mk.injEq] at hx
      obtain ⟨x, h1, h2⟩ := fitF_ok (fun t τ cs d p => fit_ok n m' t τ cs d p) fs.toList 0 τ xs hf (by simpa using hxl) (by rw [hl, hc]; omega) fun i f hi => hel i f (by simpa using hi)
      refine ⟨x, by simpa using h1, fun y hy => h2 y ?_⟩
      rw [hx.1] at hy
      cases τ with
      | pair a b => exact hy
      | unit =>
        simp only [undat] at hy ⊢
        split at hy
        · rename_i e; simp only [DataW.agg.injEq] at e; rw [e]
        · cases hy
      | _ => simp [undat] at hy
    · cases h
end
end Vx
namespace Vx
open Go Go.RowKit Go.ChangeShapes Go.WideShapes
def isStruct (P : Program) (t : TypeId) : Bool := match P.underlying t with
  | some (.struct _) => true
  | _ => false
def fitS (P : Program) (n : Nat) : List TypeId → Sig → Bool
  | [], [] => true
  | t :: ts, (a, τ) :: r => fitB P n t τ && (a == isStruct P t) && fitS P n ts r
  | _, _ => false
section
variable {H : Type} {enc : TypeId × Value → H} {P : Program} {W : World}
theorem cells_one {n : Nat} {t : TypeId} {τ : Shape} {r : Reach} {b0 : Nat} {v : Value} (hf : fitB P n t τ = true) (hs : isStruct P t = false) (hv : Value.okWide P W r b0 t v) : v.cells.toList = [v] := by
  cases n with
  | zero => simp [fitB] at hf
  | succ n =>
    unfold fitB at hf
    split at hf
    · rename_i k hk; obtain ⟨_, rfl⟩ := okWide_int hk hv; rfl
    · rename_i hk; obtain ⟨_, rfl⟩ := okWide_bool hk hv; rfl
    · rename_i e hk; obtain ⟨_, _, _, rfl⟩ := okWide_slice hk hv; rfl
    · rename_i fs hk; simp [isStruct, hk] at hs
    · cases hf
theorem erep_plain {S : Nat → Prop} {a : Bool} {τ : Shape} {x : Den τ} {y : Value} (ho : ownE a τ = false) (h : PRep W S a τ x y) : ERep W S a τ x y [] := by
  cases τ with
  | slice e =>
    cases a with
    | true => cases ho
    | false => exact ⟨rfl, h⟩
  | _ => exact ⟨rfl, h⟩
theorem args_ok {n : Nat} {sp : Nat → Bool} {held : Bool} {b0 : Nat} : ∀ (ts : List TypeId) (I : Sig) (vs : List Value) (ds : List (DataW H)) (ps : List MemPlace), fitS P n ts I = true →
    (∀ (j : Nat) (t : TypeId) (v : Value), ts[j]? = some t → vs[j]? = some v → Value.okWide P W .any b0 t v) → DataW.TrodAll enc P W 0 sp held ts vs ds ps → ∃ x : DenS I, SRep W (fun q => q < W.heap.size) I x vs [] ∧ wfS I x ∧ ds.length = ts.length
  | [], [], vs, ds, ps, _, _, h => by
    cases vs <;> cases ds <;> simp [DataW.TrodAll] at h
    exact ⟨(), ⟨rfl, rfl⟩, trivial, rfl⟩
  | [], _ :: _, _, _, _, hf, _, _ => by simp [fitS] at hf
  | _ :: _, [], _, _, _, hf, _, _ => by simp [fitS] at hf
  | t :: ts, (a, τ) :: I, vs, ds, ps, hf, hv, h => by
    cases vs with
    | nil => simp [DataW.TrodAll] at h
    | cons v vs =>
      cases ds with
      | nil => simp [DataW.TrodAll] at h
      | cons d ds =>
        obtain ⟨p, q, ⟨m, hp⟩, hq, _⟩ := h
        simp only [fitS, Bool.and_eq_true, beq_iff_eq] at hf
        obtain ⟨⟨h1, h2⟩, h3⟩ := hf
        obtain ⟨x, hx, hw, hl⟩ := args_ok ts I vs ds q h3 (fun j t v ht hv' => hv (j + 1) t v (by simpa using ht) (by simpa using hv')) hq
        obtain ⟨y, hy, _⟩ := fit_ok n m t τ _ d p h1 hp
        have hok := hv 0 t v rfl rfl
        refine ⟨(y, x), ⟨v, vs, [], [], rfl, rfl, erep_plain ?_ ?_, hx⟩, ⟨hy.wfD, hw⟩, by simp [hl]⟩
        · cases τ with
          | slice σ =>
            show a = false
            rw [h2]
            cases n with
            | zero => simp [fitB] at h1
            | succ n =>
              unfold fitB at h1
              unfold isStruct
              split at h1 <;> rename_i hk <;> first | (rw [hk]; done) | (simp only [hk]; done) | (simp [fitF] at h1; done) | skip
          | _ => rfl
        cases a with
        | true =>
          have hs : isStruct P t = true := h2.symm
          unfold isStruct at hs
          split at hs
          · rename_i fs hk
            unfold Value.okWide at hok
            rw [hk] at hok
            obtain ⟨cs, rfl, _⟩ := hok
            exact ⟨cs.toList, by simp, hy⟩
          · cases hs
        | false =>
          have hs : isStruct P t = false := h2.symm
          rw [cells_one h1 hs hok] at hy
          exact hy
theorem trodAll_below (hl : laidOutB P = true) {W' : World} (hb : Below W.heap.size W W') : ∀ (ts : List TypeId) (vs : List Value) (ds : List (DataW H)) (ps : List MemPlace), (ts.all fun t => P.readableRec t && decide (t < P.types.size)) = true →
    DataW.TrodAll enc P W 0 (fun _ => true) true ts vs ds ps → (∀ x ∈ ps, x.block < W.heap.size) → DataW.TrodAll enc P W' 0 (fun b => decide (b < W.heap.size)) true ts vs ds ps
  | [], vs, ds, ps, _, h, _ => by
    cases vs <;> cases ds <;> simp [DataW.TrodAll] at h ⊢
    exact h
  | t :: ts, vs, ds, ps, hr, h, hlt => by
    cases vs with
    | nil => simp [DataW.TrodAll] at h
    | cons v vs =>
      cases ds with
      | nil => simp [DataW.TrodAll] at h
      | cons d ds =>
        obtain ⟨p, q, hp, hq, rfl⟩ := h
        simp only [List.all_cons, Bool.and_eq_true, decide_eq_true_eq] at hr
        exact ⟨p, q, Below.trod hl hr.1.1 hr.1.2 hp hb (fun x hx => hlt x (List.mem_append.2 (.inl hx))),
          trodAll_below hl hb ts vs ds q hr.2 hq (fun x hx => hlt x (List.mem_append.2 (.inr hx))), rfl⟩
/-- a table that is laid -/
theorem glob_of {n : String} {g : Nat} {t e : TypeId} {m k : Nat} {τ : Shape} {ds : List (DataW Unit)} {xs : List (Den τ)} {r : List (String × DataW Unit)} {ps : List MemPlace}
    (hL : DataW.LaidVars P W ((n, .agg ds) :: r) ps) (hg : P.globalNamed n = some g) (ht : (P.globals[g]?).map (·.type) = some t) (hu : P.underlying t = some (.array m e)) (hc : P.cellsOf e = τ.width) (hf : fitB P k e τ = true)
    (hx : ds.map (undat τ).1 = xs.map some) :
    (g < W.heap.size ∧ ∃ vs T fz, W.heap[g]? = some (.cells vs T fz) ∧ Rows W (fun q => q < W.heap.size) τ vs 0 xs) ∧ ∃ ps', DataW.LaidVars P W r ps' := by
  obtain ⟨g', t', cs, fuel, p, q, h1, h2, h3, h4, h5, _⟩ := hL
  rw [hg] at h1; cases h1
  rw [ht] at h2; cases h2
  refine ⟨?_, q, h5⟩
  unfold World.var? at h3
  rw [hg] at h3
  simp only [Option.bind_some] at h3
  split at h3
  · rename_i c T fz hh
    cases h3
    refine ⟨(Array.getElem?_eq_some_iff.1 hh).1, cs, T, fz, hh, ?_⟩
    obtain ⟨ys, m', rfl, hy, hl, hyl, hel⟩ := DataW.trod_array hu h4
    simp only [Prod.mk.injEq, DataW.agg.injEq] at hy
    intro i x hi
    have hxl : xs.length = m := by
      have := congrArg List.length hx
      simp [hy.1, hyl] at this
      omega
    have him : i < m := by rw [← hxl]; exact (List.getElem?_eq_some_iff.1 hi).1
    have he := hel i him
    have hyi : ys[i]? = some (ys[i]'(by omega)) := List.getElem?_eq_getElem (by omega)
    rw [hyi, hc] at he
    obtain ⟨x', h6, h7⟩ := fit_ok k m' e τ _ _ _ hf he
    have hd : (undat τ).1 (ys[i]'(by omega)).1 = some x := by
      have := congrArg (·[i]?) hx
      simp only [List.getElem?_map, hy.1, hyi, hi, Option.map_some] at this
      exact Option.some.inj this
    have := h7 x hd
    subst this
    refine ⟨_, h6, fun j v hj => ?_⟩
    rw [List.getElem?_take] at hj
    split at hj
    · rw [List.getElem?_drop] at hj
      simpa using hj
    · cases hj
  · cases h3
theorem returns_true {G : List (Nat × Sigma fun τ => List (Den τ))} {f : FuncId} {I : Sig} {T : DenS I → Option (DenS [(false, .bool)])} {d : DenS [(false, .bool)]} (hS : Sound P G f (sumOf I [(false, .bool)] T d)) {x : DenS I} (hT : T x = some (true, ())) (hcal : ∃ fn, P.funcs[f]? = some fn ∧ fn.body.isNone = false ∧ (fn.name == "runtime.NumGoroutine") = false) {W : World} {args : Array Value}
    (hG : GlobsOk G W fun q => q < W.heap.size) (ha : SRep W (fun q => q < W.heap.size) I x args.toList []) : Calls P f args W fun e W' => e = .returned (.bool true) ∧ Below W.heap.size W W' := by
  have := hS.calls x (by show (T x).isSome = true; rw [hT]; rfl) W (fun q => q < W.heap.size) args.toList [] (fun q h => h) hG ha List.nodup_nil (fun r h => by simp at h)
  rw [Array.toArray_toList] at this
  have this := this.resolve_right (fun ⟨v, hv, _⟩ => by rw [run_callFunc hcal] at hv; cases hv)
  refine this.2.mono fun e W' ⟨zs, rs', he, hb, _, _, hz⟩ => ⟨?_, ⟨hb.os, hb.tape, hb.output, hb.size, fun k hk => hb.block k hk (fun h => by simp at h)⟩⟩
  obtain ⟨y, ys, r1, r2, rfl, _, ⟨_, h1⟩, rfl, _⟩ := hz
  have h2 : [y] = [Value.bool ((T x).getD d).1] := h1
  rw [hT] at h2
  cases h2
  exact he
/-- what a law's row asks -/
theorem law_post {G : List (Nat × Sigma fun τ => List (Den τ))} {f : FuncId} {fn : Func} {I : Sig} {T : DenS I → Option (DenS [(false, .bool)])} {d : DenS [(false, .bool)]} {s : ChangeSpec} {n : Nat} {tb : TypeId}
    (hS : Sound P G f (sumOf I [(false, .bool)] T d)) (hT : ∀ x, wfS I x → T x = some (true, ())) (hcal : ∃ fn, P.funcs[f]? = some fn ∧ fn.body.isNone = false ∧ (fn.name == "runtime.NumGoroutine") = false) (hlay : laidOutB P = true) (hfit : fitS P n fn.params.toList I = true)
    (hread : (fn.params.toList.all fun t => P.readableRec t && decide (t < P.types.size)) = true) (hres : fn.resultTypes = #[tb]) (hbool : P.underlying tb = some .bool) (hvars : s.vars = [])
    (hspec : ∀ ds : List (DataW H), ds.length = fn.params.toList.length → s.fn H ds = { results := [.lit (.bool true)], args := ds })
    {W : World} {base : Nat} {args : Array Value} {ds gs : List (DataW H)} {before : List MemPlace}
    (hval : ∀ (j : Nat) (t : TypeId) (v : Value), fn.params[j]? = some t → args[j]? = some v → Value.okWide P W .any base t v)
    (hW : DataW.Whole enc P fn.params.toList s.vars false W args.toList ds gs before) (hG : GlobsOk G W fun q => q < W.heap.size) :
    Calls P f args W fun e W' => ∃ v, e = .returned v ∧ ChangeSpec.post enc P fn s false true false false W args v W' := by
  have hW' := hW
  obtain ⟨p, q, hA, hV, rfl, _, _⟩ := hW
  rw [hvars] at hV
  obtain ⟨rfl, rfl⟩ := trodVars_none hV
  obtain ⟨x, hx, hw, hlen⟩ := args_ok (b0 := base) fn.params.toList I args.toList ds p hfit (fun j t v ht hv => hval j t v (by simpa using ht) (by simpa using hv)) hA
  refine (returns_true hS (hT x hw) hcal hG hx).mono fun e W' ⟨he, hb⟩ => ⟨.bool true, he, ds, [], p ++ [], [], p, [], hW', ?_, ?_, ?_, hb.frame _, fun h => by cases h⟩
  · rw [List.append_nil, hspec ds hlen, hres]
    exact trodAll_mk1 (shut_bool hbool true)
  · rw [List.append_nil, hspec ds hlen]
    exact trodAll_below hlay hb _ _ _ _ hread hA fun y hy => by simpa using hW'.lt y (by simpa using hy)
  · rw [List.append_nil, hspec ds hlen, hvars]
    rfl
end
theorem globs_nil {W : World} {S : Nat → Prop} : GlobsOk [] W S := fun _ _ _ h => by simp [findGlob] at h
theorem globs_cons {W : World} {S : Nat → Prop} {g : Nat} {τ : Shape} {xs : List (Den τ)} {G : List (Nat × Sigma fun τ => List (Den τ))} (h : S g ∧ ∃ vs T fz, W.heap[g]? = some (.cells vs T fz) ∧ Rows W S τ vs 0 xs) (r : GlobsOk G W S) :
    GlobsOk ((g, ⟨τ, xs⟩) :: G) W S := fun g' τ' xs' hf => by
  simp only [findGlob] at hf
  cases hb : Nat.beq g g' with
  | true =>
    have := Nat.eq_of_beq_eq_true hb
    subst this
    rw [hb] at hf
    simp only [cond_true, Option.some.injEq] at hf
    cases hf
    exact h
  | false =>
    rw [hb] at hf
    exact r g' τ' xs' hf
end Vx
