/- append. -/
import Derived.Test.YtkkdblemeoehpaaDoorVxCall2
namespace Vx
open Go Go.RowKit

variable {C : Cfg} {base : World} {S0 : Nat → Prop} {σ : Sit} {s : St} {a : Act} {ctx : List (Nat × Bool)} {o : Oper} {x : TV} {mem' : Mem}

theorem growBy_le : ∀ (r newLen c : Nat), 256 ≤ c → c ≤ 2 * newLen → Builtin.growBy newLen r c ≤ 2 * newLen
  | 0, newLen, c, _, h => h
  | r + 1, newLen, c, h1, h2 => by
    unfold Builtin.growBy
    split
    · exact h2
    · exact growBy_le r newLen _ (by omega) (by omega)

theorem nextcap_le {need cap : Nat} (h : cap < need) : Builtin.nextslicecap need cap ≤ 2 * need := by
  unfold Builtin.nextslicecap
  split
  · omega
  · split
    · omega
    · exact growBy_le 4 need cap (by omega) (by omega)

theorem Moves.of_acc {σ σ' : Sit} {b : Nat} (stab : ∀ r, σ.S r → σ'.S r) (heap : ∀ r, σ.S r → σ'.w.heap[r]? = σ.w.heap[r]?) (len : σ.mem.length ≤ σ'.mem.length)
    (turns : ∀ b', b' < σ.mem.length → b' ≠ b → Turns σ σ' b') (hb : ∃ τ xs τ' xs', blkAt σ.mem b = .acc τ xs ∧ blkAt σ'.mem b = .acc τ' xs') : Moves (dropOwn b) σ σ' := by
  refine ⟨stab, heap, fun c y hc => ?_, len, fun b' hb' ha => by
    by_cases h : b' = b
    · subst h; obtain ⟨_, _, _, _, e, _⟩ := hb; rw [e]; trivial
    · have ht := turns b' hb' h
      unfold Turns at ht
      cases e : blkAt σ.mem b' with
      | gone => rw [e] at ht; simp only at ht; rw [ht] at ha; exact ha
      | raw cs => rw [e] at ht; obtain ⟨_, cs', h2⟩ := ht; rw [h2] at ha; exact ha
      | arr τ xs =>
        rw [e] at ht
        rcases ht with ⟨_, xs', h2, _⟩ | ⟨xs', h2, _⟩
        · rw [h2] at ha; exact ha
        · rw [h2] at ha; exact ha
      | acc τ xs => trivial
      | froz τ xs => rw [e] at ht; simp only at ht; rw [ht] at ha; exact ha⟩
  have key : (∀ b', c = .own b' → ¬ b' = b) → RepC σ' c y := fun hne => repC_move stab heap len (fun b' => b' = b) (fun b' hb' => by
    by_cases h : b' = b
    · subst h; exact .inr ⟨rfl, hb⟩
    · exact .inl (turns b' hb' h)) hc hne
  cases c with
  | own b' =>
    simp only [dropOwn]
    cases hbb : Nat.beq b b' with
    | true => exact hc.2.1
    | false => exact key fun b'' e => by cases e; intro e; subst e; simp [Nat.beq_refl] at hbb
  | undef => exact key fun _ e => by cases e
  | v _ => exact key fun _ e => by cases e
  | fl _ _ => exact key fun _ e => by cases e
  | sl _ _ => exact key fun _ e => by cases e
  | ptr _ _ => exact key fun _ e => by cases e
  | eptr _ _ _ => exact key fun _ e => by cases e
  | iptr _ _ _ => exact key fun _ e => by cases e
  | gptr _ => exact key fun _ e => by cases e
  | fnv _ => exact key fun _ e => by cases e
  | fn _ _ => exact key fun _ e => by cases e

/-- a row that has grown: its new place -/
def Sit.grow (σ : Sit) (b : Nat) (e : Blk) (r : Option Nat) (k : Nat) (w' : World) : Sit :=
  { E := { β := upd σ.E.β b r, κ := upd σ.E.κ b k }, mem := (σ.mem.set b e).map (dropOwnB b), w := w', S := σ.S }

theorem blkAt_map {mem : Mem} {f : Blk → Blk} (hf : f .gone = .gone) {b : Nat} : blkAt (mem.map f) b = f (blkAt mem b) := by
  unfold blkAt
  rw [List.getElem?_map]
  cases mem[b]? <;> simp [hf]

theorem grow_blk {b : Nat} {τ : Shape} {zs : List (Den τ)} {r : Option Nat} {k : Nat} {w' : World} (hb : b < σ.mem.length) (b' : Nat) :
    blkAt (σ.grow b (.acc τ zs) r k w').mem b' = if b' = b then .acc τ zs else dropOwnB b (blkAt σ.mem b') := by
  simp only [Sit.grow]
  rw [blkAt_map rfl, blkAt_set hb]
  split <;> rfl

theorem ownedB_drop {b : Nat} {e : Blk} : ownedB (dropOwnB b e) ↔ ownedB e := by
  cases e <;> exact Iff.rfl

theorem grow_ok (ho : Ok base S0 σ) {b : Nat} {τ : Shape} {xs zs : List (Den τ)} (hb : blkAt σ.mem b = .acc τ xs) {r : Option Nat} {k : Nat} {w' : World}
    (hw : Below base.heap.size base w') (hsz : σ.w.heap.size ≤ w'.heap.size) (hheap : ∀ q, q < σ.w.heap.size → σ.E.β b ≠ some q → w'.heap[q]? = σ.w.heap[q]?)
    (hr : ∀ q, r = some q → base.heap.size ≤ q ∧ q < w'.heap.size ∧ (σ.E.β b = some q ∨ σ.w.heap.size ≤ q))
    (hlen : zs.length ≤ k) (hk : k < lim)
    (hat : (r = none ∧ k = 0) ∨ ∃ q vs T, r = some q ∧ w'.heap[q]? = some (.cells vs T (0, 0)) ∧ vs.size = k * τ.width ∧ Rows w' σ.S τ vs 0 zs) :
    Ok base S0 (σ.grow b (.acc τ zs) r k w') ∧ Moves (dropOwn b) σ (σ.grow b (.acc τ zs) r k w') ∧ RepC (σ.grow b (.acc τ zs) r k w') (.own b) (.slice (r.map fun q => ⟨q, 0, none⟩) zs.length k) := by
  have hlt : b < σ.mem.length := blkAt_lt (by rw [hb]; simp)
  have hS : ∀ q, σ.S q → w'.heap[q]? = σ.w.heap[q]? := fun q hq => hheap q (ho.stab q hq).1 (fun e => (ho.own b q ⟨by rw [hb]; trivial, e⟩).2.2 hq)
  have hturn : ∀ b', b' < σ.mem.length → b' ≠ b → Turns σ (σ.grow b (.acc τ zs) r k w') b' := fun b' hb' hne => by
    have e1 : blkAt (σ.grow b (.acc τ zs) r k w').mem b' = dropOwnB b (blkAt σ.mem b') := by rw [grow_blk hlt, if_neg hne]
    have e2 : (σ.grow b (.acc τ zs) r k w').E.β b' = σ.E.β b' := by simp [Sit.grow, upd, hne]
    have e3 : (σ.grow b (.acc τ zs) r k w').E.κ b' = σ.E.κ b' := by simp [Sit.grow, upd, hne]
    unfold Turns
    cases e : blkAt σ.mem b' with
    | gone => simp only; rw [e1, e]; rfl
    | raw cs => exact ⟨e2, _, by rw [e1, e]; rfl⟩
    | arr τ' ys => exact .inl ⟨e2, ys, by rw [e1, e]; rfl, rfl⟩
    | acc τ' ys => exact .inl ⟨e2, e3, by rw [e1, e]; rfl⟩
    | froz τ' ys => simp only; rw [e1, e]; rfl
  have hmv : Moves (dropOwn b) σ (σ.grow b (.acc τ zs) r k w') :=
    Moves.of_acc (fun _ h => h) (fun q hq => hS q hq) (by simp [Sit.grow]) hturn ⟨τ, xs, τ, zs, hb, by rw [grow_blk hlt, if_pos rfl]⟩
  have hold : ∀ b' q, b' ≠ b → (σ.grow b (.acc τ zs) r k w').owned b' q → σ.owned b' q := fun b' q hne ⟨h1, h2⟩ => by
    rw [grow_blk hlt, if_neg hne] at h1
    exact ⟨ownedB_drop.1 h1, by simpa [Sit.grow, upd, hne] using h2⟩
  have hnew : ∀ q, (σ.grow b (.acc τ zs) r k w').owned b q → r = some q := fun q h => by simpa [Sit.grow, upd] using h.2
  have hbown : ∀ q, σ.E.β b = some q → σ.owned b q := fun q e => ⟨by rw [hb]; trivial, e⟩
  refine ⟨⟨hw, ho.stab0, fun q hq => ⟨Nat.lt_of_lt_of_le (ho.stab q hq).1 hsz, (ho.stab q hq).2⟩, fun b' => ?_, fun b' q h => ?_, fun b1 b2 q h1 h2 => ?_⟩, hmv, ?_⟩
  · by_cases hbb : b' = b
    · subst hbb
      unfold MemAt
      rw [grow_blk hlt, if_pos rfl]
      refine ⟨by simpa [Sit.grow, upd] using hlen, by simpa [Sit.grow, upd] using hk, ?_⟩
      rcases hat with ⟨h1, h2⟩ | ⟨q, vs, T, h1, h2, h3, h4⟩
      · exact .inl ⟨by simp [Sit.grow, upd, h1], by simp [Sit.grow, upd, h2]⟩
      · exact .inr ⟨q, vs, T, by simp [Sit.grow, upd, h1], h2, by simpa [Sit.grow, upd] using h3, h4⟩
    · have he := ho.ent b'
      have howned : ∀ q, σ.owned b' q → w'.heap[q]? = σ.w.heap[q]? := fun q hq => hheap q (ho.own b' q hq).2.1 (fun e => hbb (ho.inj b' b q hq (hbown q e)))
      unfold MemAt at he ⊢
      rw [grow_blk hlt, if_neg hbb]
      have e2 : (σ.grow b (.acc τ zs) r k w').E.β b' = σ.E.β b' := by simp [Sit.grow, upd, hbb]
      have e3 : (σ.grow b (.acc τ zs) r k w').E.κ b' = σ.E.κ b' := by simp [Sit.grow, upd, hbb]
      cases e : blkAt σ.mem b' with
      | gone => trivial
      | froz τ' ys => trivial
      | raw cs =>
        rw [e] at he
        obtain ⟨q, vs, T, h1, h2, h3⟩ := he
        exact ⟨q, vs, T, e2.trans h1, (howned q ⟨by rw [e]; trivial, h1⟩).trans h2, h3.mapL (dropOwn b) hmv.rep⟩
      | arr τ' ys =>
        rw [e] at he
        obtain ⟨h0, q, vs, T, h1, h2, h3, h4⟩ := he
        exact ⟨h0, q, vs, T, e2.trans h1, (howned q ⟨by rw [e]; trivial, h1⟩).trans h2, h3, h4.mono (fun _ h => h) hS⟩
      | acc τ' ys =>
        rw [e] at he
        obtain ⟨h0, h00, h⟩ := he
        refine ⟨by rw [e3]; exact h0, by rw [e3]; exact h00, ?_⟩
        rcases h with ⟨h1, h2⟩ | ⟨q, vs, T, h1, h2, h3, h4⟩
        · exact .inl ⟨e2.trans h1, e3.trans h2⟩
        · exact .inr ⟨q, vs, T, e2.trans h1, (howned q ⟨by rw [e]; trivial, h1⟩).trans h2, by rw [e3]; exact h3, h4.mono (fun _ h => h) hS⟩
  · by_cases hbb : b' = b
    · subst hbb
      obtain ⟨g1, g2, g3⟩ := hr q (hnew q h)
      refine ⟨g1, g2, fun hs => ?_⟩
      rcases g3 with g3 | g3
      · exact (ho.own b' q (hbown q g3)).2.2 hs
      · exact absurd (ho.stab q hs).1 (by omega)
    · have := ho.own b' q (hold b' q hbb h)
      exact ⟨this.1, Nat.lt_of_lt_of_le this.2.1 hsz, this.2.2⟩
  · have key : ∀ b' q, b' ≠ b → (σ.grow b (.acc τ zs) r k w').owned b' q → r = some q → False := fun b' q hne h e => by
      have h' := hold b' q hne h
      rcases (hr q e).2.2 with g | g
      · exact hne (ho.inj b' b q h' (hbown q g))
      · exact absurd (ho.own b' q h').2.1 (by omega)
    by_cases hb1 : b1 = b <;> by_cases hb2 : b2 = b
    · rw [hb1, hb2]
    · subst hb1; exact (key b2 q hb2 h2 (hnew q h1)).elim
    · subst hb2; exact (key b1 q hb1 h1 (hnew q h2)).elim
    · exact ho.inj b1 b2 q (hold b1 q hb1 h1) (hold b2 q hb2 h2)
  · refine ⟨by simp [Sit.grow]; exact hlt, trivial, ?_⟩
    rw [grow_blk hlt, if_pos rfl]
    simp [Sit.grow, upd]


theorem zeroOk_run {P : Program} {e : TypeId} (h : zeroOk P e = true) : ∃ z : Value, z.cells.size = P.cellsOf e ∧ ∀ w, (zeroValue e).run P w = .ok z w := by
  unfold zeroOk at h
  split at h
  · rename_i x ex
    obtain ⟨z, h1, h2⟩ := zeroSV_ok (P := P) (σ := ⟨⟨fun _ => none, fun _ => 0⟩, [], default, fun _ => False⟩) ex
    refine ⟨z, ?_, h2⟩
    have := h1.cells.length
    rw [lenIs_eq h] at this
    simpa using this.symm
  · cases h

theorem list_get_app {L1 L2 : List Value} {rest : Array Value} {q : Nat} : ((L1.toArray ++ L2.toArray) ++ rest)[q]? = if q < L1.length then L1[q]? else if q < L1.length + L2.length then L2[q - L1.length]? else rest[q - (L1.length + L2.length)]? := by
  rw [Array.getElem?_append, Array.getElem?_append]
  simp only [Array.size_append, List.size_toArray, List.getElem?_toArray]
  by_cases h1 : q < L1.length
  · rw [if_pos (by omega), if_pos h1, if_pos h1]
  · by_cases h2 : q < L1.length + L2.length
    · rw [if_pos h2, if_neg h1, if_neg h1, if_pos h2]
    · rw [if_neg h2, if_neg h1, if_neg h2]

theorem append_run (ho : Ok base S0 σ) {b : Nat} {τ : Shape} {xs ys : List (Den τ)} {yv : Value} {T T2 e : TypeId} {ty : TypeId} {e2 : TypeId} {Ts : List TypeId} (hb : blkAt σ.mem b = .acc τ xs) (hd : DRep σ.w σ.S (.slice τ) ys [yv])
    (hT : C.P.underlying T = some (.slice e)) (hT2 : C.P.underlying T2 = some (.slice e2)) (eτ : elemSh C.P e = some τ) (hg : ((xs.length : Int) + (ys.length : Int)) * 2 * (C.P.bytesOf e : Int) ≤ maxRoom) (hby : 0 < C.P.bytesOf e) (hz : zeroOk C.P e = true) :
    ∃ r k w', (Builtin.append_ (T :: T2 :: Ts).toArray ty #[.slice ((σ.E.β b).map fun r => ⟨r, 0, none⟩) xs.length (σ.E.κ b), yv]).run C.P σ.w = .ok (.slice (r.map fun q => ⟨q, 0, none⟩) (xs ++ ys).length k) w' ∧
      Ok base S0 (σ.grow b (.acc τ (xs ++ ys)) r k w') ∧ Moves (dropOwn b) σ (σ.grow b (.acc τ (xs ++ ys)) r k w') ∧ RepC (σ.grow b (.acc τ (xs ++ ys)) r k w') (.own b) (.slice (r.map fun q => ⟨q, 0, none⟩) (xs ++ ys).length k) := by
  have he := ho.ent b
  unfold MemAt at he
  rw [hb] at he
  obtain ⟨hle, hlim, hblk⟩ := he
  have hw := elemSh_ok eτ
  have hsize : ∀ w, (Go.sizeOf e).run C.P w = .ok τ.width w := fun w => by rw [run_size (elemSh_info eτ), hw]
  obtain ⟨ie, hie⟩ := elemSh_info eτ
  have hbytes : ie.bytes = C.P.bytesOf e := by simp [Program.bytesOf, hie]
  have hneed : xs.length + ys.length ≤ 70368744177664 := by
    have h1 : (((xs.length + ys.length) * 2 * C.P.bytesOf e : Nat) : Int) ≤ maxRoom := by push_cast; exact hg
    have h2 : (xs.length + ys.length) * 2 * C.P.bytesOf e ≤ 140737488355328 := by unfold maxRoom at h1; omega
    have h3 := Nat.le_mul_of_pos_right ((xs.length + ys.length) * 2) hby
    omega
  obtain ⟨L, f1, f2, f3, f4⟩ := first_run (P := C.P) hd (Nat.le_refl ys.length)
  rw [List.take_length] at f3
  by_cases hroom : xs.length + ys.length ≤ σ.E.κ b
  · -- in place
    rcases hblk with ⟨h1, h2⟩ | ⟨r, vs, T', h1, h2, h3, h4⟩
    · have hx0 : xs = [] := List.eq_nil_of_length_eq_zero (by omega)
      have hy0 : ys = [] := List.eq_nil_of_length_eq_zero (by omega)
      subst hx0; subst hy0
      obtain ⟨k1, k2, k3⟩ := grow_ok ho hb (zs := []) (r := none) (k := 0) (w' := σ.w) ho.below (Nat.le_refl _) (fun _ _ _ => rfl) (fun q hq => by cases hq) (by simp) (by unfold lim; omega) (.inl ⟨rfl, rfl⟩)
      refine ⟨none, 0, σ.w, ?_, k1, k2, k3⟩
      unfold Builtin.append_
      simp [run_und hT, run_und hT2, hsize, lenOf_run hd, h1, h2]
      rw [show (0 : Nat) = ([] : List (Den τ)).length from rfl, f1]
      simp
    · have hfit : xs.length * τ.width + L.length ≤ vs.size := by
        rw [f2, h3, ← Nat.add_mul]
        exact Nat.mul_le_mul_right _ hroom
      have hrows := rows_put (k := xs.length) h4 f3 f2 (Nat.le_refl _) hfit
      rw [List.take_length, List.drop_of_length_le (by omega), List.append_nil] at hrows
      have hrl := (ho.own b r ⟨by rw [hb]; trivial, h1⟩)
      have hS : ∀ q, σ.S q → (wset σ.w r (.cells (putAt vs (xs.length * τ.width) L) T' (0, 0))).heap[q]? = σ.w.heap[q]? := fun q hq => heap_wset_ne (fun e => hrl.2.2 (e ▸ hq))
      obtain ⟨k1, k2, k3⟩ := grow_ok ho hb (zs := xs ++ ys) (r := some r) (k := σ.E.κ b) (w' := wset σ.w r (.cells (putAt vs (xs.length * τ.width) L) T' (0, 0)))
        (ho.below.trans ⟨rfl, rfl, rfl, by simp [wset], fun k hk => heap_wset_ne (by omega)⟩) (by simp [wset]) (fun q _ hne => heap_wset_ne (fun e => hne (e ▸ h1))) (fun q hq => by cases hq; exact ⟨hrl.1, by rw [size_wset]; exact hrl.2.1, .inl h1⟩)
        (by simpa using hroom) hlim (.inr ⟨r, _, T', rfl, heap_wset_eq hrl.2.1, by rw [putAt_size]; exact h3, hrows.mono (fun _ h => h) hS⟩)
      refine ⟨some r, σ.E.κ b, _, ?_, k1, k2, k3⟩
      have h0 := run_storeCells (P := C.P) (r := r) (o := xs.length * τ.width) (T := T') L 0 σ.w vs h2 (by simpa using hfit) f4
      unfold Builtin.append_
      simp [run_und hT, run_und hT2, hsize, lenOf_run hd, h1, hroom, f1, addr_add]
      rw [h0]
      simp
  · -- a new block
    obtain ⟨z, z1, z2⟩ := zeroOk_run hz
    have hnext : Builtin.nextslicecap (xs.length + ys.length) (σ.E.κ b) * C.P.bytesOf e ≤ 281474976710656 := by
      have h1 := nextcap_le (need := xs.length + ys.length) (cap := σ.E.κ b) (by omega)
      have h2 := Nat.mul_le_mul_right (C.P.bytesOf e) h1
      have h3 : ((2 * (xs.length + ys.length) * C.P.bytesOf e : Nat) : Int) ≤ maxRoom := by
        push_cast
        have : (2 : Int) * ((xs.length : Int) + (ys.length : Int)) = ((xs.length : Int) + (ys.length : Int)) * 2 := Int.mul_comm _ _
        rw [this]
        exact hg
      unfold maxRoom at h3
      omega
    obtain ⟨L0, g1, g2, g3, g4⟩ := first_rows (P := C.P) (w := σ.w.drew) (S := σ.S) (e := τ) (ys := xs) (A := (σ.E.β b).map fun r => ⟨r, 0, none⟩) (m := xs.length) (c := σ.E.κ b) (fun hne => by
      rcases hblk with ⟨h1, h2⟩ | ⟨r, vs, T', h1, h2, h3, h4⟩
      · exact absurd (List.eq_nil_of_length_eq_zero (by omega)) hne
      · exact ⟨r, 0, vs, T', (0, 0), by rw [h1]; rfl, h2, Rows.mono (w := σ.w) (w' := σ.w.drew) (fun _ h => h) (fun _ _ => rfl) h4⟩) (Nat.le_refl xs.length)
    rw [List.take_length] at g3
    obtain ⟨L', f1', f2', f3', f4'⟩ := first_run (P := C.P) (σ := { σ with w := σ.w.drew }) (DRep.mono (w := σ.w) (w' := σ.w.drew) (fun _ h => h) (fun _ _ => rfl) hd) (Nat.le_refl ys.length)
    rw [List.take_length] at f3'
    let q : Question := .appendCap (xs.length + ys.length) (σ.E.κ b) e
    let k := xs.length + ys.length + σ.w.tape σ.w.drawn q % (2 ^ 63 - (xs.length + ys.length))
    have hk : xs.length + ys.length ≤ k ∧ k < lim := by
      have hpos : 0 < 2 ^ 63 - (xs.length + ys.length) := by omega
      have := Nat.mod_lt (σ.w.tape σ.w.drawn q) hpos
      unfold lim
      omega
    let vs' : Array Value := L0.toArray ++ L'.toArray ++ Builtin.zeroCells z.cells (k - (xs.length + ys.length))
    have hzs : (Builtin.zeroCells z.cells (k - (xs.length + ys.length))).size = (k - (xs.length + ys.length)) * τ.width := by
      simp [Builtin.zeroCells, z1, hw]
    have hvs : vs'.size = k * τ.width := by
      simp only [vs', Array.size_append, List.size_toArray, hzs, g2, f2']
      rw [← Nat.add_mul, ← Nat.add_mul]
      congr 1
      omega
    have hrows : Rows (σ.w.drew.alloc (.cells vs' e)) σ.S τ vs' 0 (xs ++ ys) := by
      have hS : ∀ p, σ.S p → (σ.w.drew.alloc (.cells vs' e)).heap[p]? = σ.w.drew.heap[p]? := fun p hp => heap_alloc_lt (ho.stab p hp).1
      intro i x hi
      rcases Nat.lt_or_ge i xs.length with h1 | h1
      · rw [List.getElem?_append_left h1] at hi
        obtain ⟨ds, d1, d2⟩ := g3 i x hi
        refine ⟨ds, d1.mono (fun _ h => h) hS, fun j d hj => ?_⟩
        have hjl := (List.getElem?_eq_some_iff.1 hj).1
        rw [d1.len] at hjl
        have := row_lt h1 hjl
        simp only [vs']
        rw [list_get_app, if_pos (by omega), Nat.zero_add]
        exact d2 j d hj
      · rw [List.getElem?_append_right h1] at hi
        have h2 := (List.getElem?_eq_some_iff.1 hi).1
        obtain ⟨ds, d1, d2⟩ := f3' (i - xs.length) x hi
        refine ⟨ds, d1.mono (fun _ h => h) hS, fun j d hj => ?_⟩
        have hjl := (List.getElem?_eq_some_iff.1 hj).1
        rw [d1.len] at hjl
        have h3 := row_lt h2 hjl
        have h4 : (i - xs.length) * τ.width + xs.length * τ.width = i * τ.width := by rw [← Nat.add_mul]; congr 1; omega
        simp only [vs']
        rw [list_get_app, if_neg (by omega), if_pos (by omega)]
        rw [show 0 + i * τ.width + j - L0.length = (i - xs.length) * τ.width + j by omega]
        exact d2 j d hj
    obtain ⟨k1, k2, k3⟩ := grow_ok ho hb (zs := xs ++ ys) (r := some σ.w.heap.size) (k := k) (w' := σ.w.drew.alloc (.cells vs' e)) (ho.below.drew.alloc ho.below.size _) (by simp)
      (fun p hp _ => heap_alloc_lt (w := σ.w.drew) hp) (fun p hp => by cases hp; exact ⟨ho.below.size, by simp, .inr (Nat.le_refl _)⟩) (by simpa using hk.1) hk.2
      (.inr ⟨σ.w.heap.size, vs', e, rfl, heap_alloc_new (w := σ.w.drew), hvs, hrows⟩)
    refine ⟨some σ.w.heap.size, k, _, ?_, k1, k2, k3⟩
    have hti : ∀ w, (typeInfo e).run C.P w = .ok ie w := fun w => by simp [typeInfo, hie]
    have hn1 : ¬ ((xs.length + ys.length : Nat) : Int) > IntKind.i64.max := by
      simp [IntKind.max, IntKind.signed, IntKind.bits]; omega
    have hn2 : ¬ Builtin.nextslicecap (xs.length + ys.length) (σ.E.κ b) * ie.bytes > 2 ^ 48 := by rw [hbytes]; omega
    have hcut : (choose (.appendCap (xs.length + ys.length) (σ.E.κ b) e)).run C.P σ.w = .ok k σ.w.drew := by
      simp [q, k, Question.forced, Question.cut]
    unfold Builtin.append_
    simp only [List.getElem?_toArray, List.getElem?_cons_zero, List.getElem?_cons_succ, Sem.run_bind, run_und hT, run_und hT2, Result.andThen_ok, hsize, Sem.run_pure, Bool.false_eq_true, if_false, lenOf_run hd, if_neg hroom, hti]
    rw [if_neg (fun h => hn1 h.1)]
    simp only [Sem.run_bind, hti, Result.andThen_ok]
    rw [if_neg hn2]
    have f1'' : (Builtin.firstCells τ.width ys.length yv).run C.P σ.w.drew = .ok L'.toArray σ.w.drew := f1'
    simp only [Sem.run_bind, hcut, Result.andThen_ok, hti, run_askRoom, g1, z2, Sem.run_pure]
    simp [newRow, vs', f1'']


/-- what stripFor leaves -/
def GoodA (C : Cfg) (base : World) (S0 : Nat → Prop) (b : Nat) (σ : Sit) (a : Act) (o : Oper) (mem' : Mem) : Prop :=
  Good C base S0 (dropOwn b) σ a o (.val (.one (.own b))) (mem'.map (dropOwnB b))

theorem Goes.dropMoves {σ σ1 σ2 : Sit} {b : Nat} (h : Goes σ σ1) (h' : Moves (dropOwn b) σ1 σ2) : Moves (dropOwn b) σ σ2 :=
  ⟨fun r hr => h'.stab r (h.stab r hr), fun r hr => (h'.heap r (h.stab r hr)).trans (h.heap r hr), fun c y hc => h'.rep c y (h.repC hc), Nat.le_trans h.len h'.len, fun b hb ha => h.noacc b hb (h'.noacc b (Nat.lt_of_lt_of_le hb h.len) ha)⟩

theorem op_append (ho : Ok base S0 σ) (hr : RelT σ s a) (hx : CtxOk a ctx) {c : Call} (hop : o.op = .call c) (hc : c.callee = .builtin .append) (h : plainOp C s ctx o = some (.ok true x mem')) :
    ∃ b, x = .val (.one (.own b)) ∧ accB (blkAt (mem'.map (dropOwnB b)) b) ∧ GoodA C base S0 b σ a o mem' := by
  unfold plainOp at h
  rw [hop] at h
  simp only [hc] at h
  split at h
  · rename_i y z T T2 Ts e1 e2
    split at h
    · rename_i e e3 ac yc hT hT2 ea ey
      split at h
      · rename_i τ eτ
        cases hf : freeze1 s.mem yc with
        | mk yc' m1 =>
          rw [hf] at h
          simp only at h
          rw [← hr.mem] at hf
          obtain ⟨σ1, a1, a2, a3, a4, a5, a6⟩ := freeze1_ok ho hf
          have hya := ev1_ok hr hx ey
          have hexec : ∀ {v w'}, (Builtin.append_ (T :: T2 :: Ts).toArray o.type #[a.eval y, a.eval z]).run C.P σ.w = .ok v w' → (execOp a.eval o).run C.P σ.w = .ok (.value v) w' := fun hv => by
            obtain ⟨cs, hcs⟩ := run_builtin (a := a) (P := C.P) hop hc σ.w
            rw [hcs, args_of e1, types_of e2]
            simp only [builtin]
            exact run_v hv
          split at h
          · rename_i ys eys
            simp only [Option.some.injEq, Res.ok.injEq, Bool.and_eq_true, decide_eq_true_eq] at h
            obtain ⟨⟨⟨g1, g2⟩, g3⟩, rfl, rfl⟩ := h
            have hd := asList_ok (a6 _ hya) (freeze1_not_own hf) (by rw [a1]; exact eys)
            obtain ⟨hay, _⟩ := ev1_ok hr hx ea
            have ho2 := name_ok a4 τ
            have hg2 := name_goes σ1 (.acc τ [])
            have hb2 : blkAt (σ1.name (.acc τ [])).mem σ1.mem.length = .acc τ [] := blkAt_append_at
            have hβ : (σ1.name (.acc τ [])).E.β σ1.mem.length = none := by simp [Sit.name, upd]
            have hκ : (σ1.name (.acc τ [])).E.κ σ1.mem.length = 0 := by simp [Sit.name, upd]
            obtain ⟨r, k, w', k1, k2, k3, k4⟩ := append_run (C := C) (T2 := T2) (ty := o.type) (Ts := Ts) ho2 hb2 (hd.mono hg2.stab hg2.heap) hT hT2 eτ (by simpa using g1) (by simpa using g2) g3
            rw [hβ, hκ] at k1
            refine ⟨σ1.mem.length, by rw [a1], by rw [← a1, blkAt_map rfl, blkAt_append_at]; trivial, good_at (σ' := _) (v := .slice (r.map fun q => ⟨q, 0, none⟩) (([] : List (Den τ)) ++ ys).length k) ?_ k2 ((a5.trans hg2).dropMoves k3) ?_ k4⟩
            · refine hexec ?_
              rw [hay]
              have : (σ1.name (.acc τ [])).w = σ.w := by simp [Sit.name, a2]
              rw [this] at k1
              exact k1
            · simp [Sit.grow, Sit.name, a1]
          · rename_i ys b eys
            split at h
            · rename_i τ' xs0 eb
              split at h
              · rename_i xs ecast
                obtain ⟨hττ, hxs⟩ := castL_eq ecast
                subst hττ
                simp only at hxs
                subst hxs
                simp only [Option.some.injEq, Res.ok.injEq, Bool.and_eq_true, decide_eq_true_eq] at h
                obtain ⟨⟨⟨g1, g2⟩, g3⟩, rfl, rfl⟩ := h
                have hd := asList_ok (a6 _ hya) (freeze1_not_own hf) (by rw [a1]; exact eys)
                have hb := a5.repC (ev1_ok hr hx ea)
                rw [← a1] at eb
                obtain ⟨hlt, _, hm⟩ := hb
                rw [eb] at hm
                obtain ⟨r, k, w', k1, k2, k3, k4⟩ := append_run (C := C) (T2 := T2) (ty := o.type) (Ts := Ts) a4 eb hd hT hT2 eτ g1 (by simpa using g2) g3
                refine ⟨b, rfl, by rw [← a1, blkAt_map rfl, blkAt_set hlt, if_pos rfl]; trivial, good_at (σ' := _) (v := .slice (r.map fun q => ⟨q, 0, none⟩) (xs ++ ys).length k) ?_ k2 (a5.dropMoves k3) ?_ k4⟩
                · refine hexec ?_
                  rw [hm, ← a2]
                  exact k1
                · simp [Sit.grow, a1]
              · cases h
            · cases h
          · cases h
      · cases h
    · cases h
  · cases h

end Vx
