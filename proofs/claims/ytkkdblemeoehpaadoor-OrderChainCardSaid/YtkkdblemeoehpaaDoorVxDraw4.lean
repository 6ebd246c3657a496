/- The draw: whatever order is drawn, it leads where the text's order leads. -/
import Derived.Test.YtkkdblemeoehpaaDoorVxDraw3
namespace Vx
open Go Go.RowKit

variable {C : Cfg} {ops : List Oper} {s0 : St} {S : Nat → St} {xs : Nat → TV} {fs : Nat → FP} {base : World} {S0 : Nat → Prop}

/-- what holds behind some of the operations -/
structure Inv (C : Cfg) (ops : List Oper) (s0 : St) (S : Nat → St) (xs : Nat → TV) (fs : Nat → FP) (base : World) (S0 : Nat → Prop) (σ0 : Sit) (L : Nat → Prop) (σ : Sit) (a : Act) : Prop where
  ok : Ok base S0 σ
  adv : Adv σ0 σ
  size : a.tmps.size = s0.n
  defers : a.defers = []
  closed : ∀ i, L i → ∀ x ∈ anc ops i, L x
  lt : ∀ i, L i → i < ops.length
  blk : ∀ b, ∃ k, k ≤ ops.length ∧ blkAt σ.mem b = blkAt (S k).mem b ∧ ∀ i, i < ops.length → Wr (fs i) b → (L i ↔ i < k)
  len : ∃ k, k ≤ ops.length ∧ σ.mem.length = (S k).mem.length ∧ ∀ i, i < ops.length → fs i = .wr none → (L i ↔ i < k)
  old : ∀ t, (∀ i o, L i → ops[i]? = some o → o.dst ≠ some t) → RepT σ (getT s0.tm t) (a.tmps.getD t undef)
  new : ∀ i o d, L i → ops[i]? = some o → o.dst = some d → o.guard = none → RepT σ (xs i) (a.tmps.getD d undef)
  tag : ∀ i o d gi p t, L i → ops[i]? = some o → o.dst = some d → o.guard = some (gi, p) → gslot ops gi = some t →
    (a.tmps.getD t undef = .bool p → RepT σ (xs i) (a.tmps.getD d undef)) ∧ (a.tmps.getD t undef ≠ .bool p → a.tmps.getD d undef = undef)

theorem steps_up {α : Type} {f : Nat → α} {P : Nat → Prop} {n : Nat} (hs : ∀ i, i < n → ¬ P i → f (i + 1) = f i) : ∀ (m k : Nat), k + m ≤ n → (∀ i, k ≤ i → i < k + m → ¬ P i) → f (k + m) = f k
  | 0, k, _, _ => rfl
  | m + 1, k, h, hn => by
    rw [← Nat.add_assoc, hs (k + m) (by omega) (hn _ (by omega) (by omega))]
    exact steps_up hs m k (by omega) fun i h1 h2 => hn i h1 (by omega)

theorem steps_eq {α : Type} {f : Nat → α} {P : Nat → Prop} {n : Nat} (hs : ∀ i, i < n → ¬ P i → f (i + 1) = f i) {k j : Nat} (hk : k ≤ n) (hj : j ≤ n) (hn : ∀ i, i < n → P i → (i < j ↔ i < k)) : f k = f j := by
  rcases Nat.le_total k j with hle | hle
  · have := steps_up hs (j - k) k (by omega) fun i h1 h2 hp => by have := hn i (by omega) hp; omega
    rw [show k + (j - k) = j by omega] at this
    exact this.symm
  · have := steps_up hs (k - j) j (by omega) fun i h1 h2 hp => by have := hn i (by omega) hp; omega
    rw [show j + (k - j) = k by omega] at this
    exact this

theorem Reg.blk_step (h : Reg C ops s0 S xs fs) {b : Nat} (i : Nat) (hi : i < ops.length) (hw : ¬ Wr (fs i) b) : blkAt (S (i + 1)).mem b = blkAt (S i).mem b := by
  rcases h.mem_cases (List.getElem?_eq_getElem hi) with ⟨_, h1, _⟩ | ⟨_, _, h1 | ⟨c, e, h1, h2, _⟩⟩
  · rw [h1]
  · rw [h1] at hw; exact absurd trivial hw
  · rw [h2]; exact blkAt_set_ne fun e => hw (by rw [h1]; exact e)

theorem Reg.len_step (h : Reg C ops s0 S xs fs) (i : Nat) (hi : i < ops.length) (hw : ¬ fs i = .wr none) : (S (i + 1)).mem.length = (S i).mem.length := by
  rcases h.mem_cases (List.getElem?_eq_getElem hi) with ⟨_, h1, _⟩ | ⟨_, _, h1 | ⟨c, e, h1, h2, _⟩⟩
  · rw [h1]
  · exact absurd h1 hw
  · rw [h2]; simp

theorem mem_ext {m m' : Mem} (hl : m.length = m'.length) (hb : ∀ b, blkAt m b = blkAt m' b) : m = m' := by
  apply List.ext_getElem hl
  intro i h1 h2
  have := hb i
  unfold blkAt at this
  rw [List.getElem?_eq_getElem h1, List.getElem?_eq_getElem h2] at this
  exact this

theorem guard_looks {ops : List Oper} {o : Oper} {gi t : Nat} {p : Bool} (hg : o.guard = some (gi, p)) (ht : gslot ops gi = some t) : t ∈ looks ops o := by
  unfold looks
  rw [hg]
  unfold gslot at ht
  simp only [gchain]
  split at ht
  · rename_i o' e
    simp [e, ht]
  · cases ht

section
variable {σ0 σ : Sit} {a : Act} {L : Nat → Prop}

/-- what a ready operation waits for is behind us -/
theorem Inv.anc_in (hI : Inv C ops s0 S xs fs base S0 σ0 L σ a) (hR : Reg C ops s0 S xs fs) {j : Nat} {o : Oper} (hj : ops[j]? = some o) (hp : ∀ i ∈ preds o, L i) : ∀ i ∈ anc ops j, L i := by
  rw [hR.anc_eq hj]
  intro i hi
  obtain ⟨q, hq, hiq⟩ := List.mem_flatMap.1 hi
  rcases List.mem_cons.1 hiq with rfl | hiq
  · exact hp _ hq
  · exact hI.closed q (hp q hq) i hiq

/-- operations that aren't apart come as in the text -/
theorem Inv.as_text (hI : Inv C ops s0 S xs fs base S0 σ0 L σ a) (hR : Reg C ops s0 S xs fs) {j : Nat} {o : Oper} (hj : ops[j]? = some o) (hp : ∀ i ∈ preds o, L i) (hn : ¬ L j) {i : Nat} (hi : i < ops.length)
    (hc : fpApart (fs i) (fs j) = false) (hc' : fpApart (fs j) (fs i) = false) : L i ↔ i < j := by
  have hi' := List.getElem?_eq_getElem hi
  rcases Nat.lt_trichotomy i j with hlt | heq | hgt
  · have : L i := by
      rcases (hR.pair hi' hj hlt).2 with h | h
      · exact hI.anc_in hR hj hp i h
      · rw [hc] at h; cases h.2.2
    exact ⟨fun _ => hlt, fun _ => this⟩
  · subst heq; exact ⟨fun h => absurd h hn, fun h => absurd h (Nat.lt_irrefl _)⟩
  · constructor
    · intro h
      rcases (hR.pair hj hi' hgt).2 with h' | h'
      · exact absurd (hI.closed i h j h') hn
      · rw [hc'] at h'; cases h'.2.2
    · intro h; omega

theorem wr_apart {x y : FP} {b : Nat} (hx : Wr x b) (hy : Wr y b ∨ y = .rd (some b) ∨ y = .rd none) : fpApart x y = false ∧ fpApart y x = false := by
  cases x with
  | pure => cases hx
  | rd o => cases hx
  | wr o =>
    rcases hy with hy | rfl | rfl
    · cases y with
      | pure => cases hy
      | rd o => cases hy
      | wr q => cases o <;> cases q <;> simp_all [Wr, fpApart, Nat.beq_refl]
    · cases o <;> simp_all [Wr, fpApart, Nat.beq_refl]
    · cases o <;> simp [fpApart]

theorem Inv.blk_at (hI : Inv C ops s0 S xs fs base S0 σ0 L σ a) (hR : Reg C ops s0 S xs fs) {j : Nat} {o : Oper} (hj : ops[j]? = some o) (hp : ∀ i ∈ preds o, L i) (hn : ¬ L j) {b : Nat} (hw : Wr (fs j) b ∨ fs j = .rd (some b) ∨ fs j = .rd none) : blkAt σ.mem b = blkAt (S j).mem b := by
  have hjl : j < ops.length := (List.getElem?_eq_some_iff.1 hj).1
  obtain ⟨k, hk, h1, h2⟩ := hI.blk b
  rw [h1]
  refine steps_eq (f := fun k => blkAt (S k).mem b) (P := fun i => Wr (fs i) b) (fun i hi => hR.blk_step i hi) hk (by omega) fun i hi hwi => ?_
  have hap := wr_apart hwi hw
  rw [← h2 i hi hwi, hI.as_text hR hj hp hn hi hap.1 hap.2]

theorem Inv.mem_at (hI : Inv C ops s0 S xs fs base S0 σ0 L σ a) (hR : Reg C ops s0 S xs fs) {j : Nat} {o : Oper} (hj : ops[j]? = some o) (hp : ∀ i ∈ preds o, L i) (hn : ¬ L j) : FpSame (S j).mem σ.mem (fs j) := by
  have hjl : j < ops.length := (List.getElem?_eq_some_iff.1 hj).1
  have hfull : (fs j = .rd none ∨ fs j = .wr none) → σ.mem = (S j).mem := fun hf => by
    refine mem_ext ?_ fun b => hI.blk_at hR hj hp hn (by rcases hf with h | h <;> rw [h] <;> simp [Wr])
    obtain ⟨k, hk, h1, h2⟩ := hI.len
    rw [h1]
    refine steps_eq (f := fun k => (S k).mem.length) (P := fun i => fs i = .wr none) (fun i hi => hR.len_step i hi) hk (by omega) fun i hi hwi => ?_
    have hap : fpApart (fs i) (fs j) = false ∧ fpApart (fs j) (fs i) = false := by rw [hwi]; rcases hf with h | h <;> rw [h] <;> exact ⟨rfl, rfl⟩
    rw [← h2 i hi hwi, hI.as_text hR hj hp hn hi hap.1 hap.2]
  cases hf : fs j with
  | pure => trivial
  | rd q =>
    cases q with
    | none => exact hfull (.inl hf)
    | some b => exact hI.blk_at hR hj hp hn (.inr (.inl hf))
  | wr q =>
    cases q with
    | none => exact hfull (.inr hf)
    | some b => exact hI.blk_at hR hj hp hn (.inl (by rw [hf]; rfl))

theorem getT_looks {l : List Nat} {tm : List (Nat × TV)} : ∀ t, getT (l.map fun t => (t, getT tm t)) t = getT tm t ∧ t ∈ l ∨ getT (l.map fun t => (t, getT tm t)) t = .un := by
  induction l with
  | nil => intro t; exact .inr rfl
  | cons q r ih =>
    intro t
    simp only [List.map_cons, getT]
    cases hb : Nat.beq q t with
    | true => have := Nat.eq_of_beq_eq_true hb; subst this; exact .inl ⟨rfl, by simp⟩
    | false =>
      rcases ih t with h | h
      · exact .inl ⟨h.1, by simp [h.2]⟩
      · exact .inr h

/-- behind the listed operations a slot that a ready operation looks at holds what it holds in the text's order -/
theorem Inv.rel_at (hI : Inv C ops s0 S xs fs base S0 σ0 L σ a) (hR : Reg C ops s0 S xs fs) {j : Nat} {o : Oper} (hj : ops[j]? = some o) (hp : ∀ i ∈ preds o, L i) (hn : ¬ L j) : RelT σ { restr ops o (S j) with mem := σ.mem } a := by
  have hjl : j < ops.length := (List.getElem?_eq_some_iff.1 hj).1
  have hanc := hI.anc_in hR hj hp
  have before : ∀ i x t, i < j → ops[i]? = some x → x.dst = some t → t ∈ looks ops o → L i := fun i x t hij hi hd ht => by
    rcases (hR.pair hi hj hij).2 with h | h
    · exact hanc i h
    · rw [dstIn_iff.2 ⟨t, hd, ht⟩] at h; cases h.1
  refine ⟨?_, hI.defers, rfl, fun t => ?_, fun d g p x hm => ?_⟩
  · exact hI.size.trans (hR.parts j (by omega)).1.symm
  · simp only [restr]
    rcases getT_looks (l := looks ops o) (tm := (S j).tm) t with ⟨h, ht⟩ | h
    · rw [h]
      by_cases hex : ∃ i x, i < j ∧ ops[i]? = some x ∧ x.dst = some t
      · obtain ⟨i, x, hij, hi, hd⟩ := hex
        rw [hR.tm_new hi hd j hij (by omega)]
        cases hg : x.guard with
        | none => exact hI.new i x t (before i x t hij hi hd ht) hi hd hg
        | some _ => trivial
      · rw [hR.tm_old j (by omega) t fun i x hij hi hd => hex ⟨i, x, hij, hi, hd⟩]
        refine hI.old t fun i x hL hi hd => ?_
        rcases Nat.lt_trichotomy i j with hlt | heq | hgt
        · exact hex ⟨i, x, hlt, hi, hd⟩
        · subst heq; exact hn hL
        · rcases (hR.pair hj hi hgt).2 with h' | h'
          · exact hn (hI.closed i hL j h')
          · rw [dstIn_iff.2 ⟨t, hd, ht⟩] at h'; cases h'.2.1
    · rw [h]; trivial
  · simp only [restr] at hm
    obtain ⟨hm, hd⟩ := List.mem_filter.1 hm
    obtain ⟨i, y, gi, hij, hi, hyd, hyg, hgs, rfl⟩ := hR.cs_of j (by omega) d g p x hm
    exact hI.tag i y d gi p g (before i y d hij hi hyd (memB_iff.1 hd)) hi hyd hyg hgs

/-- what the check says of one operation, over the memory at hand -/
theorem Reg.plain {j : Nat} {o : Oper} (hk3 : memKind o.op < 3) {mem : Mem} {ctx : List (Nat × Bool)} {g : Bool} {x : TV} {m2 : Mem} (hsame : FpSame (S j).mem mem (fpOf (restr ops o (S j)) ctx o.op))
    (hno : calm (restr ops o (S j)) ctx o.op = true ∨ memKind o.op = 2) (h : plainOp C (restr ops o (S j)) ctx o = some (.ok g x m2)) :
    ∃ m3, plainOp C { restr ops o (S j) with mem := mem } ctx o = some (.ok g x m3) ∧ (memKind o.op ≤ 1 → m3 = mem) ∧ (fpOf (restr ops o (S j)) ctx o.op = .wr none → m3 = m2) ∧
      (∀ c, fpOf (restr ops o (S j)) ctx o.op = .wr (some c) → ∃ e, m2 = (S j).mem.set c e ∧ m3 = mem.set c e ∧ blkAt (S j).mem c ≠ .gone) := by
  by_cases hk : memKind o.op ≤ 1
  · have hc : calm (restr ops o (S j)) ctx o.op = true := hno.resolve_right (by omega)
    exact ⟨mem, fp_any hc hk h mem hsame, fun _ => rfl, fun hf => absurd hf (fpOf_kind hk _), fun c hf => absurd hf (fpOf_kind hk _)⟩
  · cases hf : fpOf (restr ops o (S j)) ctx o.op with
    | wr q =>
      cases q with
      | none =>
        rw [hf] at hsame
        have e : mem = (S j).mem := hsame
        subst e
        exact ⟨m2, h, fun h' => absurd h' hk, fun _ => rfl, fun c hc => (by cases hc)⟩
      | some b =>
        rw [hf] at hsame
        cases hop : o.op with
        | store T y z =>
          obtain ⟨hng, e, h1, h2⟩ := fp_store hop h hf (m2 := mem) hsame
          exact ⟨_, h2, fun h' => (by rw [← hop] at h'; exact absurd h' hk), fun hc => (by cases hc), fun c hc => (by cases hc; exact ⟨e, h1, rfl, hng⟩)⟩
        | alloc T => rw [hop] at hf; cases hf
        | box T y => rw [hop] at hf; cases hf
        | call c =>
          exfalso
          rw [hop] at hk hk3
          simp only [memKind] at hk hk3
          generalize hz : c.callee = z at hk hk3
          cases z with
          | value f => simp at hk
          | invoke r m => simp at hk3
          | builtin b => cases b <;> simp at hk hk3
        | _ => exfalso; rw [hop] at hk hk3; simp only [memKind] at hk hk3; omega
    | _ =>
      exfalso
      cases hop : o.op with
      | store T y z => rw [hop] at hf; simp only [fpOf] at hf; (repeat' split at hf) <;> first | cases hf | (cases hq : notOwns _ <;> rw [hq] at hf <;> cases hf)
      | alloc T => rw [hop] at hf; cases hf
      | box T y => rw [hop] at hf; cases hf
      | call c =>
        rw [hop] at hk hk3
        simp only [memKind] at hk hk3
        generalize hz : c.callee = z at hk hk3
        cases z with
        | value f => simp at hk
        | invoke r m => simp at hk3
        | builtin b => cases b <;> simp at hk hk3
      | _ => rw [hop] at hk hk3; simp only [memKind] at hk hk3; omega

theorem getD_put' {a : Act} {o : Option Nat} {v : Value} {n : Nat} (hs : a.tmps.size = n) (hd : ∀ d, o = some d → d < n) (t : Nat) : (a.put o v).tmps.getD t undef = if o = some t then v else a.tmps.getD t undef := by
  cases o with
  | none => simp [Act.put]
  | some d =>
    rw [getD_put (by rw [hs]; exact hd d rfl)]
    by_cases h : t = d
    · subst h; simp
    · rw [if_neg h, if_neg (by simp; exact fun e => h e.symm)]

/-- one operation more -/
theorem Inv.next (hI : Inv C ops s0 S xs fs base S0 σ0 L σ a) (hR : Reg C ops s0 S xs fs) {j : Nat} {o : Oper} (hj : ops[j]? = some o) (hp : ∀ i ∈ preds o, L i) (hn : ¬ L j) {σ' : Sit} {v : Value}
    (hok : Ok base S0 σ') (hmv : Moves id σ σ') 
    (hmem : (σ'.mem = σ.mem ∧ ∀ q, fs j ≠ .wr q) ∨ (fs j = .wr none ∧ σ'.mem = (S (j + 1)).mem) ∨ (∃ c e, fs j = .wr (some c) ∧ (S (j + 1)).mem = (S j).mem.set c e ∧ σ'.mem = σ.mem.set c e ∧ blkAt (S j).mem c ≠ .gone))
    (hnew : o.guard = none → RepT σ' (xs j) v)
    (htag : ∀ gi p t, o.guard = some (gi, p) → gslot ops gi = some t → (a.tmps.getD t undef = .bool p → RepT σ' (xs j) v) ∧ (a.tmps.getD t undef ≠ .bool p → v = undef)) :
    Inv C ops s0 S xs fs base S0 σ0 (fun i => i = j ∨ L i) σ' (a.put o.dst v) := by
  have hjl : j < ops.length := (List.getElem?_eq_some_iff.1 hj).1
  obtain ⟨hev, hap, hdn⟩ := hR.tr.step j o hj
  have hdn' : ∀ d, o.dst = some d → d < s0.n := fun d hd => by have := hdn d hd; rw [(hR.parts j (by omega)).1] at this; exact this
  have hget := fun t => getD_put' (v := v) hI.size hdn' t
  have hanc := hI.anc_in hR hj hp
  have keep : ∀ {x y}, RepT σ x y → RepT σ' x y := fun h => RepT.keep hmv.rep h
  -- a listed operation's guard doesn't hang on j
  have hguard : ∀ i x gi p t, L i → ops[i]? = some x → x.guard = some (gi, p) → gslot ops gi = some t → o.dst ≠ some t := fun i x gi p t hL hi hg ht hd => by
    have hgi := (hR.row hi).2.2.2.2 gi p hg
    have hex : ∃ z, ops[gi]? = some z ∧ z.dst = some t := by
      unfold gslot at ht
      split at ht
      · rename_i z e; exact ⟨z, e, ht⟩
      · cases ht
    obtain ⟨z, hz, hzd⟩ := hex
    have hjg : gi = j := hR.distinct hz hj hzd hd
    subst hjg
    have hlook : t ∈ looks ops x := guard_looks hg ht
    rcases (hR.pair hj hi hgi).2 with h | h
    · exact hn (hI.closed i hL _ h)
    · rw [dstIn_iff.2 ⟨t, hd, hlook⟩] at h; cases h.1
  refine ⟨hok, hI.adv.trans hmv.adv_id, ?_, ?_, fun i hi x hx => ?_, fun i hi => ?_, fun b => ?_, ?_, fun t ht => ?_, fun i x d hi hx hd hg => ?_, fun i x d gi p t hi hx hd hg ht => ?_⟩
  · have := hI.size
    cases hd : o.dst <;> simp [Act.put, this]
  · have := hI.defers
    cases hd : o.dst <;> simp [Act.put, this]
  · rcases hi with rfl | hi
    · exact .inr (hanc x hx)
    · exact .inr (hI.closed i hi x hx)
  · rcases hi with rfl | hi
    · exact hjl
    · exact hI.lt i hi
  · obtain ⟨k, hkl, hb1, hb2⟩ := hI.blk b
    have stay : ¬ Wr (fs j) b → ∀ i, i < ops.length → Wr (fs i) b → ((i = j ∨ L i) ↔ i < k) := fun hw i hi hwi => by
      rw [← hb2 i hi hwi]
      exact ⟨fun h => h.resolve_left fun e => hw (by rw [← e]; exact hwi), .inr⟩
    have here : Wr (fs j) b → ∀ i, i < ops.length → Wr (fs i) b → ((i = j ∨ L i) ↔ i < j + 1) := fun hw i hi hwi => by
      have hap := wr_apart hwi (.inl hw)
      rw [hI.as_text hR hj hp hn hi hap.1 hap.2]
      omega
    rcases hmem with ⟨h1, h2⟩ | ⟨h1, h2⟩ | ⟨c, e, h1, h2, h3, h4⟩
    · refine ⟨k, hkl, by rw [h1]; exact hb1, stay fun hw => ?_⟩
      cases hf : fs j with
      | wr q => exact h2 q hf
      | _ => rw [hf] at hw; exact hw
    · exact ⟨j + 1, by omega, by rw [h2], here (by rw [h1]; trivial)⟩
    · by_cases hcb : c = b
      · subst hcb
        have hw : Wr (fs j) c := by rw [h1]; rfl
        refine ⟨j + 1, by omega, ?_, here hw⟩
        have heq := hI.blk_at hR hj hp hn (.inl hw)
        rw [h2, h3, blkAt_set (blkAt_lt h4), blkAt_set (blkAt_lt (by rw [heq]; exact h4)), if_pos rfl, if_pos rfl]
      · exact ⟨k, hkl, by rw [h3, blkAt_set_ne hcb]; exact hb1, stay fun hw => hcb (by rw [h1] at hw; exact hw)⟩
  · obtain ⟨k, hkl, hb1, hb2⟩ := hI.len
    have stay : fs j ≠ .wr none → ∀ i, i < ops.length → fs i = .wr none → ((i = j ∨ L i) ↔ i < k) := fun hw i hi hwi => by
      rw [← hb2 i hi hwi]
      exact ⟨fun h => h.resolve_left fun e => hw (by rw [← e]; exact hwi), .inr⟩
    rcases hmem with ⟨h1, h2⟩ | ⟨h1, h2⟩ | ⟨c, e, h1, h2, h3, h4⟩
    · exact ⟨k, hkl, by rw [h1]; exact hb1, stay (h2 _)⟩
    · refine ⟨j + 1, by omega, by rw [h2], fun i hi hwi => ?_⟩
      have hap := wr_apart (b := 0) (x := fs i) (y := fs j) (by rw [hwi]; trivial) (.inl (by rw [h1]; trivial))
      rw [hI.as_text hR hj hp hn hi hap.1 hap.2]
      omega
    · exact ⟨k, hkl, by rw [h3, List.length_set]; exact hb1, stay (by rw [h1]; simp)⟩
  · rw [hget, if_neg (ht j o (.inl rfl) hj)]
    exact keep (hI.old t fun i x hi hx => ht i x (.inr hi) hx)
  · rw [hget]
    rcases hi with rfl | hi
    · rw [hj] at hx; cases hx
      rw [if_pos hd]; exact hnew hg
    · rw [if_neg fun e => hn (by rw [← hR.distinct hx hj hd e]; exact hi)]
      exact keep (hI.new i x d hi hx hd hg)
  · rw [hget t, hget d]
    rcases hi with rfl | hi
    · rw [hj] at hx; cases hx
      have hne : o.dst ≠ some t := fun e => by
        have hr := (hR.row hj).2.2.1
        rw [dstIn_iff.2 ⟨t, e, guard_looks hg ht⟩] at hr; cases hr
      rw [if_pos hd, if_neg hne]
      exact htag gi p t hg ht
    · have hne1 : o.dst ≠ some d := fun e => hn (by rw [← hR.distinct hx hj hd e]; exact hi)
      have hne2 := hguard i x gi p t hi hx hg ht
      rw [if_neg hne1, if_neg hne2]
      have := hI.tag i x d gi p t hi hx hd hg ht
      exact ⟨fun h => keep (this.1 h), this.2⟩

end

end Vx
