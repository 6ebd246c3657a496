/- A region whose order is drawn. -/
import Derived.Test.YtkkdblemeoehpaaDoorVxDraw4
namespace Vx
open Go Go.RowKit

variable {C : Cfg} {ops : List Oper} {s0 : St} {S : Nat → St} {xs : Nat → TV} {fs : Nat → FP} {base : World} {S0 : Nat → Prop}

theorem countP_le {p q : Nat → Bool} (h : ∀ i, q i = true → p i = true) : ∀ l : List Nat, l.countP q ≤ l.countP p
  | [] => by simp
  | x :: l => by
    have ih := countP_le h l
    rw [List.countP_cons, List.countP_cons]
    have := h x
    cases hq : q x <;> cases hp : p x <;> simp_all <;> omega

theorem countP_lt {p q : Nat → Bool} (h : ∀ i, q i = true → p i = true) {j : Nat} (hp : p j = true) (hq : q j = false) : ∀ l : List Nat, j ∈ l → l.countP q < l.countP p
  | [], hj => by simp at hj
  | x :: l, hj => by
    rw [List.countP_cons, List.countP_cons]
    rcases List.mem_cons.1 hj with rfl | hj
    · have := countP_le h l
      rw [hp, hq]; simp; omega
    · have ih := countP_lt h hp hq l hj
      have := h x
      cases hq' : q x <;> cases hp' : p x <;> simp_all <;> omega

theorem mem_preds {o : Oper} {i : Nat} : i ∈ preds o ↔ ∃ e ∈ o.after, Region.binds .any e = true ∧ e.on = i := by
  unfold preds
  simp only [List.mem_map, List.mem_filter, Array.mem_toList_iff]
  constructor
  · rintro ⟨e, ⟨h1, h2⟩, h3⟩; exact ⟨e, h1, h2, h3⟩
  · rintro ⟨e, h1, h2, h3⟩; exact ⟨e, ⟨h1, h2⟩, h3⟩

theorem lazy_kind {o : Op} (h : lazyOp o = true) : memKind o ≠ 2 := by
  cases o <;> simp [lazyOp, memKind] at h ⊢
  split <;> simp

/-- one drawn operation -/
theorem draw_op (hC : SumsOk C) {opsA : Array Oper} (hR : Reg C opsA.toList s0 S xs fs) {σ0 σ : Sit} {a : Act} {L : Nat → Prop} (hG0 : GlobsOk C.globs σ0.w σ0.S)
    (hI : Inv C opsA.toList s0 S xs fs base S0 σ0 L σ a) {j : Nat} {o : Oper} (hj : opsA.toList[j]? = some o) (hp : ∀ i ∈ preds o, L i) (hn : ¬ L j) {K : Act → World → Prop} {Q : Exit → Act → World → Prop}
    (hK : ∀ σ' a', Inv C opsA.toList s0 S xs fs base S0 σ0 (fun i => i = j ∨ L i) σ' a' → K a' σ'.w) :
    if Region.wanted o (yielded opsA a.tmps) then o.wp C.P a σ.w K Q else K (a.put o.dst undef) σ.w := by
  have hrel := hI.rel_at hR hj hp hn
  have hat := hI.mem_at hR hj hp hn
  have hG := hG0.adv hI.adv
  obtain ⟨hev, hap, hdn⟩ := hR.tr.step j o hj
  have hkind := (hR.row hj).2.1
  have hna : ∀ c, o.op = .call c → c.callee ≠ .builtin .append := fun c hop hc => by rw [hop] at hkind; simp [memKind, hc] at hkind
  unfold evalD at hev
  simp only at hev
  split at hev
  · rename_i hg
    rw [if_pos (by simp [Region.wanted, hg])]
    obtain ⟨hb, hev⟩ := cond_some hev
    simp only [Bool.or_eq_true] at hb
    split at hev
    · rename_i g x m2 hpl
      simp only [Option.some.injEq, Prod.mk.injEq] at hev
      obtain ⟨hfs, rfl, rfl, hm2⟩ := hev
      rw [← hfs] at hat
      obtain ⟨m3, hpl', h1, h2, h3⟩ := Reg.plain hkind hat (hb.imp id fun h => Nat.eq_of_beq_eq_true h) hpl
      refine plainOp_ok hC hI.ok hrel (fun _ _ h => by simp at h) hG hna hpl' K Q fun v σ' k1 k2 k3 k4 => hK σ' _ ?_
      refine hI.next hR hj hp hn k1 k2 ?_ (fun _ => k4) (fun gi p t h => by rw [hg] at h; cases h)
      rcases hR.mem_cases hj with ⟨hk1, _, hq⟩ | ⟨_, _, hq | ⟨c, e, hq, _, _⟩⟩
      · exact .inl ⟨by rw [k3, h1 hk1], hq⟩
      · exact .inr (.inl ⟨hq, by rw [k3, h2 (by rw [hfs]; exact hq), hm2]⟩)
      · obtain ⟨e', q1, q2, q3⟩ := h3 c (by rw [hfs]; exact hq)
        exact .inr (.inr ⟨c, e', hq, by rw [← hm2]; exact q1, by rw [k3]; exact q2, q3⟩)
    · cases hev
  · rename_i gi p hg
    split at hev
    · rename_i t d ht hd
      obtain ⟨hb, hev⟩ := cond_some hev
      simp only [Bool.and_eq_true, Bool.not_eq_true'] at hb
      split at hev
      · rename_i c g x m2 hcv hpl
        simp only [Option.some.injEq, Prod.mk.injEq, Bool.or_eq_true, Bool.not_eq_true'] at hev
        obtain ⟨hfs, hgc, rfl, hm2⟩ := hev
        have hk2 := lazy_kind hb.1.1
        have hk1 : memKind o.op ≤ 1 := by omega
        have hq : ∀ q, fs j ≠ .wr q := fun q => by rw [← hfs]; exact fpOf_kind hk1 q
        rw [← hfs] at hat
        obtain ⟨m3, hpl', h1, _, _⟩ := Reg.plain hkind hat (.inl hb.2) hpl
        have hcv' := cval_ok (s := { restr opsA.toList o (S j) with mem := σ.mem }) hrel.tm hrel.cs hcv
        have hw := wanted_iff (a := a) hg ht
        by_cases hwant : a.tmps.getD t undef = .bool p
        · rw [if_pos (hw.2 hwant)]
          have hgt : g = true := by
            rcases hgc with h | h
            · exact h
            · rw [hcv'.2 hwant] at h; cases h
          subst hgt
          refine plainOp_ok hC hI.ok hrel (ctxOf_ok hrel.cs hwant) hG hna hpl' K Q fun v σ' k1 k2 k3 k4 => hK σ' _ ?_
          refine hI.next hR hj hp hn k1 k2 (.inl ⟨by rw [k3, h1 hk1], hq⟩) (fun h => by rw [hg] at h; cases h) (fun gi' p' t' h e => ?_)
          rw [hg] at h; cases h
          rw [ht] at e; cases e
          exact ⟨fun _ => k4, fun h => absurd hwant h⟩
        · rw [if_neg fun h => hwant (hw.1 h)]
          refine hK σ _ (hI.next hR hj hp hn hI.ok (Goes.refl σ).moves (.inl ⟨rfl, hq⟩) (fun h => by rw [hg] at h; cases h) (fun gi' p' t' h e => ?_))
          rw [hg] at h; cases h
          rw [ht] at e; cases e
          exact ⟨fun h => absurd h hwant, fun _ => rfl⟩
      · cases hev
    · cases hev

theorem Inv.start (hR : Reg C ops s0 S xs fs) {σ : Sit} {a : Act} (ho : Ok base S0 σ) (hr : RelT σ s0 a) : Inv C ops s0 S xs fs base S0 σ (fun _ => False) σ a :=
  ⟨ho, Adv.refl σ, hr.size, hr.defers, fun _ h => h.elim, fun _ h => h.elim, fun b => ⟨0, Nat.zero_le _, by rw [hR.tr.zero, hr.mem], fun i _ _ => ⟨fun h => h.elim, fun h => by omega⟩⟩, ⟨0, Nat.zero_le _, by rw [hR.tr.zero, hr.mem], fun i _ _ => ⟨fun h => h.elim, fun h => by omega⟩⟩, fun t _ => hr.tm t,
    fun _ _ _ h => h.elim, fun _ _ _ _ _ _ h => h.elim⟩

theorem Inv.done (hR : Reg C ops s0 S xs fs) {σ0 σ : Sit} {a : Act} {L : Nat → Prop} (hI : Inv C ops s0 S xs fs base S0 σ0 L σ a) (hall : ∀ i, i < ops.length → L i) : RelT σ (S ops.length) a := by
  refine ⟨?_, hI.defers, ?_, fun t => ?_, fun d g p x hm => ?_⟩
  · exact hI.size.trans (hR.parts _ (Nat.le_refl _)).1.symm
  · refine mem_ext ?_ fun b => ?_
    · obtain ⟨k, hkl, h1, h2⟩ := hI.len
      rw [h1]
      refine steps_eq (f := fun k => (S k).mem.length) (P := fun i => fs i = .wr none) (fun i hi => hR.len_step i hi) hkl (Nat.le_refl _) fun i hi hwi => ?_
      rw [← h2 i hi hwi]
      exact ⟨fun _ => hall i hi, fun _ => hi⟩
    · obtain ⟨k, hkl, h1, h2⟩ := hI.blk b
      rw [h1]
      refine steps_eq (f := fun k => blkAt (S k).mem b) (P := fun i => Wr (fs i) b) (fun i hi => hR.blk_step i hi) hkl (Nat.le_refl _) fun i hi hwi => ?_
      rw [← h2 i hi hwi]
      exact ⟨fun _ => hall i hi, fun _ => hi⟩
  · by_cases hex : ∃ i x, i < ops.length ∧ ops[i]? = some x ∧ x.dst = some t
    · obtain ⟨i, x, hij, hi, hd⟩ := hex
      rw [hR.tm_new hi hd _ hij (Nat.le_refl _)]
      cases hg : x.guard with
      | none => exact hI.new i x t (hall i hij) hi hd hg
      | some _ => trivial
    · rw [hR.tm_old _ (Nat.le_refl _) t fun i x hij hi hd => hex ⟨i, x, hij, hi, hd⟩]
      exact hI.old t fun i x hL hi hd => hex ⟨i, x, hI.lt i hL, hi, hd⟩
  · obtain ⟨i, y, gi, hij, hi, hyd, hyg, hgs, rfl⟩ := hR.cs_of _ (Nat.le_refl _) d g p x hm
    exact hI.tag i y d gi p g (hall i hij) hi hyd hyg hgs

theorem draw_any (hC : SumsOk C) {opsA : Array Oper} (hR : Reg C opsA.toList s0 S xs fs) {σ0 : Sit} (hG0 : GlobsOk C.globs σ0.w σ0.S) {Q : Exit → Act → World → Prop}
    (hQ : ∀ σ' a', Ok base S0 σ' → Adv σ0 σ' → RelT σ' (S opsA.size) a' → Q .normal a' σ'.w) :
    ∀ (fuel : Nat) (listed : Array Bool) (σ : Sit) (a : Act), listed.size = opsA.size → (List.range opsA.size).countP (fun i => !listed.getD i false) ≤ fuel →
      Inv C opsA.toList s0 S xs fs base S0 σ0 (fun i => listed.getD i false = true) σ a → wpAny C.P .any opsA Q fuel listed a σ.w := by
  have fin : ∀ (listed : Array Bool) (σ : Sit) (a : Act), listed.size = opsA.size → Region.ready .any opsA listed = [] → Inv C opsA.toList s0 S xs fs base S0 σ0 (fun i => listed.getD i false = true) σ a → Q .normal a σ.w := fun listed σ a hs hnil hI => by
    have hall : ∀ n i, i < n → i < opsA.size → listed.getD i false = true := fun n => by
      induction n with
      | zero => intro i h; omega
      | succ n ih =>
        intro i hin hi
        cases hb : listed.getD i false with
        | true => rfl
        | false =>
          exfalso
          have hmem : i ∈ Region.ready .any opsA listed := by
            rw [mem_ready]
            have hil : i < listed.size := by omega
            refine ⟨?_, opsA[i], by simp [hi], fun e he hbd => ?_⟩
            · simpa [Array.getD, hil] using hb
            · have hlt := (hR.row (j := i) (y := opsA[i]) (by simp [hi])).1 e.on (mem_preds.2 ⟨e, he, hbd, rfl⟩)
              exact ih e.on (by omega) (by omega)
          rw [hnil] at hmem; simp at hmem
    have := hI.done hR fun i hi => hall (i + 1) i (by omega) (by simpa using hi)
    exact hQ σ a hI.ok hI.adv (by simpa using this)
  intro fuel
  induction fuel with
  | zero =>
    intro listed σ a hs hc hI
    have hnil : Region.ready .any opsA listed = [] := by
      cases hr : Region.ready .any opsA listed with
      | nil => rfl
      | cons i r =>
        exfalso
        have hi : i ∈ Region.ready .any opsA listed := by rw [hr]; simp
        obtain ⟨h1, o, ho, _⟩ := mem_ready.1 hi
        have hil : i < opsA.size := (Array.getElem?_eq_some_iff.1 ho).1
        have h0 : (List.range opsA.size).countP (fun i => !listed.getD i false) = 0 := by omega
        rw [List.countP_eq_zero] at h0
        have := h0 i (List.mem_range.2 hil)
        have hil' : i < listed.size := by omega
        simp [Array.getD, hil'] at h1 this
        rw [this] at h1; cases h1
    exact ⟨hnil, fin listed σ a hs hnil hI⟩
  | succ fuel ih =>
    intro listed σ a hs hc hI
    refine ⟨fun hnil => fin listed σ a hs hnil hI, fun i hi => ?_⟩
    obtain ⟨h1, o, ho, hall⟩ := mem_ready.1 hi
    have hil : i < opsA.size := (Array.getElem?_eq_some_iff.1 ho).1
    have hil' : i < listed.size := by omega
    have h1' : listed.getD i false = false := by simpa [Array.getD, hil'] using h1
    have hset : ∀ k, (listed.setIfInBounds i true).getD k false = true ↔ (k = i ∨ listed.getD k false = true) := fun k => by
      by_cases hk : k = i
      · subst hk; simp [Array.getD, hil']
      · rw [Array.getD_eq_getD_getElem?, Array.getElem?_setIfInBounds_ne (fun e => hk e.symm), ← Array.getD_eq_getD_getElem?]
        simp [hk]
    have hstep := draw_op (K := wpAny C.P .any opsA Q fuel (listed.setIfInBounds i true)) (Q := Q) hC hR hG0 hI (j := i) (o := o) (by simpa using ho)
      (fun k hk => by obtain ⟨e, he, hb, rfl⟩ := mem_preds.1 hk; exact hall e he hb) (by simp [h1'])
      (fun σ' a' hI' => ih _ σ' a' (by simpa using hs) ?_ ?_)
    · unfold wpOp
      rw [ho]
      simp only
      split
      · rename_i hw; rw [if_pos hw] at hstep; exact .inl hstep
      · rename_i hw; rw [if_neg hw] at hstep; exact hstep
    · have := countP_lt (p := fun i => !listed.getD i false) (q := fun k => !(listed.setIfInBounds i true).getD k false) (j := i) (fun k hk => by
        simp only [Bool.not_eq_true'] at hk ⊢
        cases hb : listed.getD k false with
        | false => rfl
        | true => rw [(hset k).2 (.inr hb)] at hk; cases hk) (by simp [h1']) (by simp only [Bool.not_eq_false']; exact (hset i).2 (.inl rfl)) (List.range opsA.size) (List.mem_range.2 hil)
      omega
    · have : (fun k => (listed.setIfInBounds i true).getD k false = true) = (fun k => k = i ∨ listed.getD k false = true) := funext fun k => propext (hset k)
      rw [this]; exact hI'

theorem ok_drew {σ : Sit} {n : Nat} (ho : Ok base S0 σ) : Ok base S0 { σ with w := { σ.w with drawn := n } } ∧ Goes σ { σ with w := { σ.w with drawn := n } } := by
  have hg : Goes σ { σ with w := { σ.w with drawn := n } } := ⟨fun _ h => h, fun _ _ => rfl, Nat.le_refl _, fun _ _ => Turns.refl rfl rfl rfl⟩
  exact ⟨⟨⟨ho.below.os, ho.below.tape, ho.below.output, ho.below.size, ho.below.block⟩, ho.stab0, ho.stab, fun b => MemAt.keep hg rfl rfl rfl (fun _ _ => rfl) (ho.ent b), ho.own, ho.inj⟩, hg⟩

theorem chk_some {α : Type} {r : α} : ∀ {gs : List Bool} {x : Option α}, chk gs x = some r → (∀ g ∈ gs, g = true) ∧ x = some r
  | [], x, h => ⟨by simp, h⟩
  | g :: gs, x, h => by
    simp only [chk] at h
    obtain ⟨h1, h2⟩ := cond_some h
    obtain ⟨h3, h4⟩ := chk_some h2
    exact ⟨fun q hq => by rcases List.mem_cons.1 hq with rfl | hq; exact h1; exact h3 q hq, h4⟩

/-- a region whose order is drawn -/
theorem draw_ok (hP : ProgOk C) {opsA : Array Oper} {fps : List FP} {gs : List Bool} {s s' : St} (hd : okDraw opsA.toList fps = true) (he : drawRun C opsA.toList opsA.toList s = some (fps, gs, s')) (hgs : ∀ g ∈ gs, g = true) (hcs : s.cs = [])
    {σ : Sit} {a : Act} (ho : Ok base S0 σ) (hr : RelT σ s a) (hG : GlobsOk C.globs σ.w σ.S) {id : Nat} {Q : Exit → Act → World → Prop}
    (hQ : ∀ σ' a', Ok base S0 σ' → Adv σ σ' → RelT σ' s' a' → s'.m0 = s.m0 → Q .normal a' σ'.w) : (Code.region id opsA true).wp C.P Q a σ.w := by
  obtain ⟨S, xs, fs, h0, h1, h2, h3⟩ := trace_from _ _ _ _ _ he hgs
  have hR : Reg C opsA.toList s S xs fs := ⟨⟨fps, hd, h0⟩, ⟨h1, h3⟩, hcs⟩
  obtain ⟨k1, k2⟩ := ok_drew (n := σ.w.drawn + 1) ho
  refine wp_region_any hP.mixed ?_
  have hstart := Inv.start hR k1 (show RelT _ s a from ⟨hr.size, hr.defers, hr.mem, fun t => RepT.keep k2.moves.rep (hr.tm t), fun d g p x hm => ⟨fun h => RepT.keep k2.moves.rep ((hr.cs d g p x hm).1 h), (hr.cs d g p x hm).2⟩⟩)
  have hm0 : s'.m0 = s.m0 := by
    rw [← h2]; exact (hR.parts _ (Nat.le_refl _)).2
  refine draw_any hP.sums hR (σ0 := { σ with w := { σ.w with drawn := σ.w.drawn + 1 } }) (hG.adv k2.adv) (fun σ' a' q1 q2 q3 => hQ σ' a' q1 (k2.adv.trans q2) (by rw [← h2]; exact q3) hm0) opsA.size (Array.replicate opsA.size false) { σ with w := { σ.w with drawn := σ.w.drawn + 1 } } a (by simp) ?_ ?_
  · refine Nat.le_trans (List.countP_le_length) ?_
    simp
  · have : (fun i => (Array.replicate opsA.size false).getD i false = true) = fun _ => False := funext fun i => by
      simp [Array.getD]
    rw [this]
    exact hstart

end Vx
