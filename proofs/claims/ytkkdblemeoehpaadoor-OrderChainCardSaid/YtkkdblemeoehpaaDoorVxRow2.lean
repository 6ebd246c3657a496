/- A law's row: from what its function computes to what the row says. -/
import Derived.Test.YtkkdblemeoehpaaDoorVxRow
namespace Vx
open Go Go.RowKit Go.ChangeShapes Go.WideShapes

def isStruct (P : Program) (t : TypeId) : Bool := match P.underlying t with
  | some (.struct _) => true
  | _ => false

def fitS (P : Program) (n : Nat) : List TypeId → Sig → Bool
  | [], [] => true
  | t :: ts, (a, τ) :: r => fitB P n t τ && (a == isStruct P t) && fitS P n ts r
  | _, _ => false

section
variable {H : Type} {enc : TypeId × Value → H} {P : Program} {W : World}

theorem cells_one {n : Nat} {t : TypeId} {τ : Shape} {r : Reach} {b0 : Nat} {v : Value} (hf : fitB P n t τ = true) (hs : isStruct P t = false) (hv : Value.okWide P W r b0 t v) : v.cells.toList = [v] := by
  cases n with
  | zero => simp [fitB] at hf
  | succ n =>
    unfold fitB at hf
    split at hf
    · rename_i k hk; obtain ⟨_, rfl⟩ := okWide_int hk hv; rfl
    · rename_i hk; obtain ⟨_, rfl⟩ := okWide_bool hk hv; rfl
    · rename_i e hk; obtain ⟨_, _, _, rfl⟩ := okWide_slice hk hv; rfl
    · rename_i fs hk; simp [isStruct, hk] at hs
    · cases hf

theorem args_ok {n : Nat} {sp : Nat → Bool} {held : Bool} {b0 : Nat} : ∀ (ts : List TypeId) (I : Sig) (vs : List Value) (ds : List (DataW H)) (ps : List MemPlace), fitS P n ts I = true →
    (∀ (j : Nat) (t : TypeId) (v : Value), ts[j]? = some t → vs[j]? = some v → Value.okWide P W .any b0 t v) → DataW.TrodAll enc P W 0 sp held ts vs ds ps → ∃ x : DenS I, SRep W (fun q => q < W.heap.size) I x vs ∧ wfS I x ∧ ds.length = ts.length
  | [], [], vs, ds, ps, _, _, h => by
    cases vs <;> cases ds <;> simp [DataW.TrodAll] at h
    exact ⟨(), rfl, trivial, rfl⟩
  | [], _ :: _, _, _, _, hf, _, _ => by simp [fitS] at hf
  | _ :: _, [], _, _, _, hf, _, _ => by simp [fitS] at hf
  | t :: ts, (a, τ) :: I, vs, ds, ps, hf, hv, h => by
    cases vs with
    | nil => simp [DataW.TrodAll] at h
    | cons v vs =>
      cases ds with
      | nil => simp [DataW.TrodAll] at h
      | cons d ds =>
        obtain ⟨p, q, ⟨m, hp⟩, hq, _⟩ := h
        simp only [fitS, Bool.and_eq_true, beq_iff_eq] at hf
        obtain ⟨⟨h1, h2⟩, h3⟩ := hf
        obtain ⟨x, hx, hw, hl⟩ := args_ok ts I vs ds q h3 (fun j t v ht hv' => hv (j + 1) t v (by simpa using ht) (by simpa using hv')) hq
        obtain ⟨y, hy, _⟩ := fit_ok n m t τ _ d p h1 hp
        have hok := hv 0 t v rfl rfl
        refine ⟨(y, x), ⟨v, vs, rfl, ?_, hx⟩, ⟨hy.wfD, hw⟩, by simp [hl]⟩
        cases a with
        | true =>
          have hs : isStruct P t = true := h2.symm
          unfold isStruct at hs
          split at hs
          · rename_i fs hk
            unfold Value.okWide at hok
            rw [hk] at hok
            obtain ⟨cs, rfl, _⟩ := hok
            exact ⟨cs.toList, by simp, hy⟩
          · cases hs
        | false =>
          have hs : isStruct P t = false := h2.symm
          rw [cells_one h1 hs hok] at hy
          exact hy

theorem trodAll_below (hl : laidOutB P = true) {W' : World} (hb : Below W.heap.size W W') : ∀ (ts : List TypeId) (vs : List Value) (ds : List (DataW H)) (ps : List MemPlace), (ts.all fun t => P.readableRec t && decide (t < P.types.size)) = true →
    DataW.TrodAll enc P W 0 (fun _ => true) true ts vs ds ps → (∀ x ∈ ps, x.block < W.heap.size) → DataW.TrodAll enc P W' 0 (fun b => decide (b < W.heap.size)) true ts vs ds ps
  | [], vs, ds, ps, _, h, _ => by
    cases vs <;> cases ds <;> simp [DataW.TrodAll] at h ⊢
    exact h
  | t :: ts, vs, ds, ps, hr, h, hlt => by
    cases vs with
    | nil => simp [DataW.TrodAll] at h
    | cons v vs =>
      cases ds with
      | nil => simp [DataW.TrodAll] at h
      | cons d ds =>
        obtain ⟨p, q, hp, hq, rfl⟩ := h
        simp only [List.all_cons, Bool.and_eq_true, decide_eq_true_eq] at hr
        exact ⟨p, q, Below.trod hl hr.1.1 hr.1.2 hp hb (fun x hx => hlt x (List.mem_append.2 (.inl hx))),
          trodAll_below hl hb ts vs ds q hr.2 hq (fun x hx => hlt x (List.mem_append.2 (.inr hx))), rfl⟩

/-- a table that is laid -/
theorem glob_of {n : String} {g : Nat} {t e : TypeId} {m k : Nat} {τ : Shape} {ds : List (DataW Unit)} {xs : List (Den τ)} {r : List (String × DataW Unit)} {ps : List MemPlace}
    (hL : DataW.LaidVars P W ((n, .agg ds) :: r) ps) (hg : P.globalNamed n = some g) (ht : (P.globals[g]?).map (·.type) = some t) (hu : P.underlying t = some (.array m e)) (hc : P.cellsOf e = τ.width) (hf : fitB P k e τ = true)
    (hx : ds.map (undat τ).1 = xs.map some) :
    (g < W.heap.size ∧ ∃ vs T fz, W.heap[g]? = some (.cells vs T fz) ∧ Rows W (fun q => q < W.heap.size) τ vs 0 xs) ∧ ∃ ps', DataW.LaidVars P W r ps' := by
  obtain ⟨g', t', cs, fuel, p, q, h1, h2, h3, h4, h5, _⟩ := hL
  rw [hg] at h1; cases h1
  rw [ht] at h2; cases h2
  refine ⟨?_, q, h5⟩
  unfold World.var? at h3
  rw [hg] at h3
  simp only [Option.bind_some] at h3
  split at h3
  · rename_i c T fz hh
    cases h3
    refine ⟨(Array.getElem?_eq_some_iff.1 hh).1, cs, T, fz, hh, ?_⟩
    obtain ⟨ys, m', rfl, hy, hl, hyl, hel⟩ := DataW.trod_array hu h4
    simp only [Prod.mk.injEq, DataW.agg.injEq] at hy
    intro i x hi
    have hxl : xs.length = m := by
      have := congrArg List.length hx
      simp [hy.1, hyl] at this
      omega
    have him : i < m := by rw [← hxl]; exact (List.getElem?_eq_some_iff.1 hi).1
    have he := hel i him
    have hyi : ys[i]? = some (ys[i]'(by omega)) := List.getElem?_eq_getElem (by omega)
    rw [hyi, hc] at he
    obtain ⟨x', h6, h7⟩ := fit_ok k m' e τ _ _ _ hf he
    have hd : (undat τ).1 (ys[i]'(by omega)).1 = some x := by
      have := congrArg (·[i]?) hx
      simp only [List.getElem?_map, hy.1, hyi, hi, Option.map_some] at this
      exact Option.some.inj this
    have := h7 x hd
    subst this
    refine ⟨_, h6, fun j v hj => ?_⟩
    rw [List.getElem?_take] at hj
    split at hj
    · rw [List.getElem?_drop] at hj
      simpa using hj
    · cases hj
  · cases h3

theorem returns_true {G : List (Nat × Sigma fun τ => List (Den τ))} {f : FuncId} {I : Sig} {T : DenS I → Option (DenS [(false, .bool)])} {d : DenS [(false, .bool)]} (hS : Sound P G f (sumOf I [(false, .bool)] T d)) {x : DenS I} (hT : T x = some (true, ())) {W : World} {args : Array Value}
    (hG : GlobsOk G W fun q => q < W.heap.size) (ha : SRep W (fun q => q < W.heap.size) I x args.toList) : Calls P f args W fun e W' => e = .returned (.bool true) ∧ Below W.heap.size W W' := by
  have := hS.calls x (by show (T x).isSome = true; rw [hT]; rfl) W (fun q => q < W.heap.size) args.toList (fun q h => h) hG ha
  rw [Array.toArray_toList] at this
  refine this.mono fun e W' ⟨zs, he, hb, hz⟩ => ⟨?_, hb⟩
  obtain ⟨y, ys, rfl, h1, rfl⟩ := hz
  have h2 : [y] = [Value.bool ((T x).getD d).1] := h1
  rw [hT] at h2
  cases h2
  exact he

/-- what a law's row asks -/
theorem law_post {G : List (Nat × Sigma fun τ => List (Den τ))} {f : FuncId} {fn : Func} {I : Sig} {T : DenS I → Option (DenS [(false, .bool)])} {d : DenS [(false, .bool)]} {s : ChangeSpec} {n : Nat} {tb : TypeId}
    (hS : Sound P G f (sumOf I [(false, .bool)] T d)) (hT : ∀ x, wfS I x → T x = some (true, ())) (hlay : laidOutB P = true) (hfit : fitS P n fn.params.toList I = true)
    (hread : (fn.params.toList.all fun t => P.readableRec t && decide (t < P.types.size)) = true) (hres : fn.resultTypes = #[tb]) (hbool : P.underlying tb = some .bool) (hvars : s.vars = [])
    (hspec : ∀ ds : List (DataW H), ds.length = fn.params.toList.length → s.fn H ds = { results := [.lit (.bool true)], args := ds })
    {W : World} {base : Nat} {args : Array Value} {ds gs : List (DataW H)} {before : List MemPlace}
    (hval : ∀ (j : Nat) (t : TypeId) (v : Value), fn.params[j]? = some t → args[j]? = some v → Value.okWide P W .any base t v)
    (hW : DataW.Whole enc P fn.params.toList s.vars false W args.toList ds gs before) (hG : GlobsOk G W fun q => q < W.heap.size) :
    Calls P f args W fun e W' => ∃ v, e = .returned v ∧ ChangeSpec.post enc P fn s false true false false W args v W' := by
  have hW' := hW
  obtain ⟨p, q, hA, hV, rfl, _, _⟩ := hW
  rw [hvars] at hV
  obtain ⟨rfl, rfl⟩ := trodVars_none hV
  obtain ⟨x, hx, hw, hlen⟩ := args_ok (b0 := base) fn.params.toList I args.toList ds p hfit (fun j t v ht hv => hval j t v (by simpa using ht) (by simpa using hv)) hA
  refine (returns_true hS (hT x hw) hG hx).mono fun e W' ⟨he, hb⟩ => ⟨.bool true, he, ds, [], p ++ [], [], p, [], hW', ?_, ?_, ?_, hb.frame _, fun h => by cases h⟩
  · rw [List.append_nil, hspec ds hlen, hres]
    exact trodAll_mk1 (shut_bool hbool true)
  · rw [List.append_nil, hspec ds hlen]
    exact trodAll_below hlay hb _ _ _ _ hread hA fun y hy => by simpa using hW'.lt y (by simpa using hy)
  · rw [List.append_nil, hspec ds hlen, hvars]
    rfl

end

theorem globs_nil {W : World} {S : Nat → Prop} : GlobsOk [] W S := fun _ _ _ h => by simp [findGlob] at h

theorem globs_cons {W : World} {S : Nat → Prop} {g : Nat} {τ : Shape} {xs : List (Den τ)} {G : List (Nat × Sigma fun τ => List (Den τ))} (h : S g ∧ ∃ vs T fz, W.heap[g]? = some (.cells vs T fz) ∧ Rows W S τ vs 0 xs) (r : GlobsOk G W S) :
    GlobsOk ((g, ⟨τ, xs⟩) :: G) W S := fun g' τ' xs' hf => by
  simp only [findGlob] at hf
  cases hb : Nat.beq g g' with
  | true =>
    have := Nat.eq_of_beq_eq_true hb
    subst this
    rw [hb] at hf
    simp only [cond_true, Option.some.injEq] at hf
    cases hf
    exact h
  | false =>
    rw [hb] at hf
    exact r g' τ' xs' hf

end Vx
