/- Loops by their steps. -/
import Derived.Test.YtkkdblemeoehpaaDoorVxFin
namespace Vx
open Go Go.RowKit

/-- the data at a loop's exits -/
@[reducible] def OutT : List (Nat × Pat) → Option Pat → Type
  | [], none => Empty
  | [], some p => p.D
  | (_, p) :: r, o => p.D ⊕ OutT r o

/-- what comes behind an inner loop -/
@[reducible] def obind {A R : Type} (o : Option A) (f : A → Option R) : Option R := match o with
  | some y => f y
  | none => none

@[reducible] def obind2 {A A' R : Type} (o : A ⊕ A') (f : A → Option R) (g : A' → Option R) : Option R := match o with
  | .inl y => f y
  | .inr y => g y

def outK {R : Type} : (l : List (Nat × Pat)) → (o : Option Pat) → (Nat → St → Option R) → (St → Option R) → OutT l o → Option R
  | [], none, _, _ => fun _ => none
  | [], some p, _, kr => fun y => kr (buildPat p y)
  | (i, p) :: r, o, ke, kr => fun z => obind2 z (fun y => ke i (buildPat p y)) (fun z => outK r o ke kr z)

def injE {R : Type} : (l : List (Nat × Pat)) → (o : Option Pat) → (OutT l o → Option R) → Nat → St → Option R
  | [], _, _, _, _ => none
  | (i, p) :: r, o, e, id, s => bif Nat.beq i id then (match readPat p s with | some y => e (.inl y) | none => none) else injE r o (fun z => e (.inr z)) id s

def injR {R : Type} : (l : List (Nat × Pat)) → (o : Option Pat) → (OutT l o → Option R) → St → Option R
  | [], none, _, _ => none
  | [], some p, e, s => match readPat p s with | some y => e y | none => none
  | _ :: r, o, e, s => injR r o (fun z => e (.inr z)) s

/-- a loop's body, as a step from head to head or to an exit -/
def lStep (C : Cfg) (d : Nat) (fid : FuncId) (body : Code) (pat : Pat) (accs : List (Nat × Shape)) (exits : List (Nat × Pat)) (ret : Option Pat) {R : Type} (L : pat.D → Option R) (e : OutT exits ret → Option R) (x : pat.D) : Option R :=
  exec C (inlRun C d) true fid body (buildPat pat x) (fun s' => match readPat pat (accUp accs { s' with cs := [] }) with
    | some y => L y
    | none => none) (injE exits ret e) (injR exits ret e)

theorem outE_eq {R : Type} (ke : Nat → St → Option R) (kr : St → Option R) : ∀ (l : List (Nat × Pat)) (o : Option Pat) (id : Nat) (s : St), outE l ke id s = injE l o (outK l o ke kr) id s
  | [], _, _, _ => rfl
  | (i, p) :: r, o, id, s => by
    unfold outE
    simp only [findPat, injE]
    cases hb : Nat.beq i id with
    | true =>
      have := Nat.eq_of_beq_eq_true hb
      subst this
      rfl
    | false =>
      simp only [cond_false]
      have ih := outE_eq ke kr r o id s
      unfold outE at ih
      rw [ih]
      rfl

theorem outR_eq {R : Type} (ke : Nat → St → Option R) (kr : St → Option R) : ∀ (l : List (Nat × Pat)) (o : Option Pat) (s : St), outR o kr s = injR l o (outK l o ke kr) s
  | [], none, _ => rfl
  | [], some p, s => rfl
  | (i, p) :: r, o, s => by
    simp only [injR]
    rw [outR_eq ke kr r o s]
    rfl

/-- any number of rounds that ends -/
noncomputable def lfix {D Y : Type} (φ : (D → Option Y) → D → Option Y) (x : D) : Option Y :=
  open Classical in if h : ∃ y, ∃ n, iter φ n x = some y then some (Classical.choose h) else none

theorem lfix_iter {D Y : Type} {φ : (D → Option Y) → D → Option Y} {x : D} {y : Y} (h : lfix φ x = some y) : ∃ n, iter φ n x = some y := by
  unfold lfix at h
  split at h
  · rename_i hex
    cases h
    exact Classical.choose_spec hex
  · cases h

/-- a step that uses what it is given, and looks at nothing of it -/
def Par {D Y : Type} (Φ : {R : Type} → (D → Option R) → (Y → Option R) → D → Option R) : Prop :=
  ∀ (A B : Type) (rel : Option A → Option B → Prop) (L : D → Option A) (L' : D → Option B) (e : Y → Option A) (e' : Y → Option B), rel none none → (∀ x, rel (L x) (L' x)) → (∀ y, rel (e y) (e' y)) → ∀ x, rel (Φ L e x) (Φ L' e' x)

theorem rel_cond {A B : Type} {rel : Option A → Option B → Prop} {c : Bool} {a a' : Option A} {b b' : Option B} (h : rel a b) (h' : rel a' b') : rel (bif c then a else a') (bif c then b else b') := by
  cases c
  · exact h'
  · exact h

theorem rel_obind {A B T : Type} {rel : Option A → Option B → Prop} (h0 : rel none none) {o : Option T} {f : T → Option A} {g : T → Option B} (h : ∀ y, rel (f y) (g y)) : rel (obind o f) (obind o g) := by
  cases o with
  | none => exact h0
  | some y => exact h y

theorem rel_obind2 {A B T T' : Type} {rel : Option A → Option B → Prop} {o : T ⊕ T'} {f : T → Option A} {g : T → Option B} {f' : T' → Option A} {g' : T' → Option B} (h : ∀ y, rel (f y) (g y)) (h' : ∀ y, rel (f' y) (g' y)) :
    rel (obind2 o f f') (obind2 o g g') := by
  cases o with
  | inl y => exact h y
  | inr y => exact h' y

section
variable {D Y : Type} {Φ : {R : Type} → (D → Option R) → (Y → Option R) → D → Option R}

theorem iter_mono (hp : Par Φ) : ∀ (n m : Nat) (x : D) (y : Y), iter (fun L => Φ L some) n x = some y → n ≤ m → iter (fun L => Φ L some) m x = some y
  | 0, _, _, _, h, _ => by simp [iter] at h
  | n + 1, 0, _, _, _, h => by omega
  | n + 1, m + 1, x, y, h, hm => by
    simp only [iter] at h ⊢
    exact hp Y Y (fun a b => ∀ y, a = some y → b = some y) _ _ _ _ (fun _ h => h) (fun x y h => iter_mono hp n m x y h (by omega)) (fun _ _ h => h) x y h

theorem lfix_of (hp : Par Φ) {n : Nat} {x : D} {y : Y} (h : iter (fun L => Φ L some) n x = some y) : lfix (fun L => Φ L some) x = some y := by
  have hex : ∃ y, ∃ n, iter (fun L => Φ L some) n x = some y := ⟨y, n, h⟩
  unfold lfix
  rw [dif_pos hex]
  obtain ⟨m, hm⟩ := Classical.choose_spec hex
  have h1 := iter_mono hp n (max n m) x y h (by omega)
  have h2 := iter_mono hp m (max n m) x _ hm (by omega)
  rw [h1] at h2
  rw [← h2]

/-- a loop with a measure -/
theorem lfix_ind (hp : Par Φ) (μ : D → Nat) (I : D → Prop) (post : D → Y) (h : ∀ (L : D → Option Y) x, I x → (∀ x', I x' → μ x' < μ x → L x' = some (post x')) → Φ L some x = some (post x)) : ∀ x, I x → lfix (fun L => Φ L some) x = some (post x) := by
  have key : ∀ m x, I x → μ x < m → iter (fun L => Φ L some) m x = some (post x) := by
    intro m
    induction m with
    | zero => intro x _ h; omega
    | succ m ih =>
      intro x hx hm
      simp only [iter]
      exact h _ x hx fun x' hx' hlt => ih x' hx' (by omega)
  intro x hx
  exact lfix_of hp (key (μ x + 1) x hx (by omega))

end

@[reducible] noncomputable def LoopSpec.of (pat : Pat) (accs : List (Nat × Shape)) (exits : List (Nat × Pat)) (ret : Option Pat) (runF : pat.D → Option (OutT exits ret)) : LoopSpec :=
  { pat, accs, exits, ret, run := fun x ke kr => match runF x with
      | some z => outK exits ret ke kr z
      | none => none }

theorem lBody_eq {C : Cfg} {d : Nat} {fid : FuncId} {body : Code} (sp : LoopSpec) {R : Type} (ke : Nat → St → Option R) (kr : St → Option R) (L : sp.pat.D → Option R) (x : sp.pat.D) :
    lBody C d fid body sp ke kr L x = lStep C d fid body sp.pat sp.accs sp.exits sp.ret L (outK sp.exits sp.ret ke kr) x := by
  have h1 : outE sp.exits ke = injE sp.exits sp.ret (outK sp.exits sp.ret ke kr) := funext fun id => funext fun s => outE_eq ke kr sp.exits sp.ret id s
  have h2 : outR sp.ret kr = injR sp.exits sp.ret (outK sp.exits sp.ret ke kr) := funext fun s => outR_eq ke kr sp.exits sp.ret s
  unfold lBody lStep
  rw [← h1, ← h2]
  congr 1
  funext s'
  cases readPat sp.pat (accUp sp.accs { s' with cs := [] }) <;> rfl

theorem loopOk_of {C : Cfg} {d : Nat} {fid : FuncId} {body : Code} {pat : Pat} {accs : List (Nat × Shape)} {exits : List (Nat × Pat)} {ret : Option Pat} (Φ : {R : Type} → (pat.D → Option R) → (OutT exits ret → Option R) → pat.D → Option R) (hp : Par Φ)
    (hs : ∀ (R : Type) (L : pat.D → Option R) (e : OutT exits ret → Option R) x, lStep C d fid body pat accs exits ret L e x = Φ L e x) :
    LoopOk C d fid body (LoopSpec.of pat accs exits ret (lfix fun L => Φ L some)) := by
  intro R ke kr r x h
  have hbody : ∀ (L : pat.D → Option R) (x : pat.D), lBody C d fid body (LoopSpec.of pat accs exits ret (lfix fun L => Φ L some)) ke kr L x = Φ L (outK exits ret ke kr) x := fun L x =>
    (lBody_eq (LoopSpec.of pat accs exits ret (lfix fun L => Φ L some)) ke kr L x).trans (hs R L (outK exits ret ke kr) x)
  simp only [LoopSpec.of] at h
  split at h
  · rename_i z hz
    obtain ⟨n, hn⟩ := lfix_iter hz
    refine ⟨n, ?_⟩
    have key : ∀ n (x : pat.D) z, iter (fun L => Φ L some) n x = some z → iter (lBody C d fid body (LoopSpec.of pat accs exits ret (lfix fun L => Φ L some)) ke kr) n x = outK exits ret ke kr z := by
      intro n
      induction n with
      | zero => intro x z h; simp [iter] at h
      | succ n ih =>
        intro x z h
        simp only [iter] at h
        exact (hbody _ x).trans <| hp _ R (fun a b => ∀ z, a = some z → b = outK exits ret ke kr z) _ _ _ _ (fun _ h => by cases h) (fun x z h => ih x z h) (fun y z h => by cases h; rfl) x z h
    exact (key n x z hn).trans h
  · cases h

/-- a function by what it computes -/
noncomputable def sumOf (I O : Sig) (t : DenS I → Option (DenS O)) (dflt : DenS O) : Sum := { ins := I, outs := O, pre := fun x => (t x).isSome, F := fun x => (t x).getD dflt }

theorem sumOf_sound {C : Cfg} (hP : ProgOk C) (hL : LoopsOk C) (d : Nat) (f : FuncId) (fn : Func) (hf : C.P.funcs[f]? = some fn) (hb : fn.body.isNone = false) (hn : (fn.name == "runtime.NumGoroutine") = false) (I O : Sig) (t : DenS I → Option (DenS O)) (dflt : DenS O)
    (h : ∀ x, run C d f fn I O x = t x) : Sound C.P C.globs f (sumOf I O t dflt) :=
  sound_of hP hL d f fn hf hb hn _ fun x hx => by
    refine (h x).trans ?_
    simp only [sumOf] at hx ⊢
    cases ht : t x with
    | none => rw [ht] at hx; cases hx
    | some y => rfl


def DenS.dflt : (S : Sig) → DenS S
  | [] => ()
  | (_, τ) :: r => (τ.dflt, DenS.dflt r)

/-- a loop's body by its name -/
def bodyOf (fn : Func) (k : Nat) : Code := match fn.body with
  | some c => ((loopsOf c).find? fun b => Nat.beq (keyOf b) k).getD .skip
  | none => .skip

def nodupN : List Nat → Bool
  | [] => true
  | n :: r => !(memB n r) && nodupN r

theorem find_key : ∀ {l : List Code}, nodupN (l.map keyOf) = true → ∀ {b : Code} {k : Nat}, b ∈ l → keyOf b = k → l.find? (fun b => Nat.beq (keyOf b) k) = some b
  | [], _, b, k, h, _ => by simp at h
  | c :: l, hn, b, k, hb, hk => by
    simp only [List.map_cons, nodupN, Bool.and_eq_true, Bool.not_eq_true'] at hn
    rw [List.find?_cons]
    rcases List.mem_cons.1 hb with rfl | hb
    · subst hk; simp [Nat.beq_refl]
    · have : Nat.beq (keyOf c) k = false := by
        cases hq : Nat.beq (keyOf c) k with
        | false => rfl
        | true =>
          have e := Nat.eq_of_beq_eq_true hq
          have : memB (keyOf c) (l.map keyOf) = true := memB_iff.2 (by rw [e, ← hk]; exact List.mem_map_of_mem hb)
          rw [this] at hn; cases hn.1
      rw [this]
      exact find_key hn.2 hb hk

theorem bodyOf_eq {fn : Func} {whole : Code} (hw : fn.body = some whole) (hn : nodupN ((loopsOf whole).map keyOf) = true) {b : Code} {k : Nat} (hb : b ∈ loopsOf whole) (hk : keyOf b = k) : b = bodyOf fn k := by
  unfold bodyOf
  rw [hw]
  simp only [find_key hn hb hk, Option.getD_some]

/-- the summaries of a configuration, one by one -/
def AllSound (P : Program) (G : List (Nat × Sigma fun τ => List (Den τ))) : List (FuncId × Sum) → Prop
  | [] => True
  | (f, S) :: r => Sound P G f S ∧ AllSound P G r

theorem sumsOk_of {P : Program} {G : List (Nat × Sigma fun τ => List (Den τ))} : ∀ {l : List (FuncId × Sum)}, AllSound P G l → ∀ f S, findSum l f = some S → Sound P G f S
  | [], _, f, S, h => by simp [findSum] at h
  | (g, T) :: r, ha, f, S, h => by
    simp only [findSum] at h
    cases hb : Nat.beq g f with
    | true =>
      rw [hb] at h
      simp only [cond_true, Option.some.injEq] at h
      subst h
      have := Nat.eq_of_beq_eq_true hb
      subst this
      exact ha.1
    | false => rw [hb] at h; exact sumsOk_of ha.2 f S h

def AllLoops (C : Cfg) (fid : FuncId) (fn : Func) : List (FuncId × Nat × LoopSpec) → Prop
  | [] => True
  | (f, k, sp) :: r => f = fid ∧ (∀ d, LoopOk C (d + 2) fid (bodyOf fn k) sp) ∧ AllLoops C fid fn r

theorem findLoop_of {C : Cfg} {fid : FuncId} {fn : Func} : ∀ {l : List (FuncId × Nat × LoopSpec)}, AllLoops C fid fn l → ∀ {f k sp}, findLoop l f k = some sp → f = fid ∧ ∀ d, LoopOk C (d + 2) fid (bodyOf fn k) sp
  | [], _, f, k, sp, h => by simp [findLoop] at h
  | (g, j, T) :: r, ha, f, k, sp, h => by
    simp only [findLoop] at h
    cases hb : (Nat.beq g f && Nat.beq j k) with
    | true =>
      rw [hb] at h
      simp only [cond_true, Option.some.injEq] at h
      subst h
      simp only [Bool.and_eq_true] at hb
      have e1 := Nat.eq_of_beq_eq_true hb.1
      have e2 := Nat.eq_of_beq_eq_true hb.2
      subst e1 e2
      exact ⟨ha.1, ha.2.1⟩
    | false => rw [hb] at h; exact findLoop_of ha.2.2 h

/-- the loops of a configuration, all of one function -/
theorem loopsOk_of {C : Cfg} {fid : FuncId} {fn : Func} (hf : C.P.funcs[fid]? = some fn) (hn : ∀ whole, fn.body = some whole → nodupN ((loopsOf whole).map keyOf) = true) (ha : AllLoops C fid fn C.loops) : LoopsOk C := by
  intro f k sp h fn' whole hf' hw body hb hk d
  obtain ⟨rfl, hl⟩ := findLoop_of ha h
  rw [hf] at hf'
  cases hf'
  rw [bodyOf_eq hw (hn whole hw) hb hk]
  exact hl d

/-- all that a function without a fault in its text needs -/
theorem fn_sound (C : Cfg) (d : Nat) (f : FuncId) (fn : Func) (hm : C.P.follows .mixedOrders = true) (hf : C.P.funcs[f]? = some fn) (hb : (match fn.body with | some c => nodupN ((loopsOf c).map keyOf) | none => false) = true) (hn : (fn.name == "runtime.NumGoroutine") = false)
    (hs : AllSound C.P C.globs C.sums) (hl : AllLoops C f fn C.loops) (I O : Sig) (t : DenS I → Option (DenS O)) (dflt : DenS O) (h : ∀ x, run C d f fn I O x = t x) : Sound C.P C.globs f (sumOf I O t dflt) := by
  have hb' : ∃ c, fn.body = some c ∧ nodupN ((loopsOf c).map keyOf) = true := by
    cases e : fn.body with
    | none => rw [e] at hb; cases hb
    | some c => rw [e] at hb; exact ⟨c, rfl, hb⟩
  obtain ⟨c, e, hc⟩ := hb'
  exact sumOf_sound ⟨fun g S => sumsOk_of hs g S, hm⟩ (loopsOk_of hf (fun w hw => by rw [e] at hw; cases hw; exact hc) hl) d f fn hf (by rw [e]; rfl) hn I O t dflt h

end Vx
