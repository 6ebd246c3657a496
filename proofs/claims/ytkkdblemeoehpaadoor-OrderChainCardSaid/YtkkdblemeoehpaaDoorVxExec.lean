/- Whole pieces of code. -/
import Derived.Test.YtkkdblemeoehpaaDoorVxPat
namespace Vx
open Go Go.RowKit

/-- what is known of the loops -/
def LoopOk (C : Cfg) (d : Nat) (fid : FuncId) (body : Code) (sp : LoopSpec) : Prop :=
  ∀ (R : Type) (ke : Nat → St → Option R) (kr : St → Option R) (r : R) (x : sp.pat.D), sp.run x ke kr = some r → ∃ n, iter (lBody C d fid body sp ke kr) n x = some r

def LoopsOk (C : Cfg) : Prop :=
  ∀ fid k sp, C.loop fid k = some sp → ∀ fn whole, C.P.funcs[fid]? = some fn → fn.body = some whole → ∀ body ∈ loopsOf whole, keyOf body = k → ∀ d, LoopOk C (d + 2) fid body sp

variable {C : Cfg} {base : World} {S0 : Nat → Prop} {R : Type} {r : R}

theorem post_mono {σ0 : Sit} {kn kn' : St → Option R} {ke ke' : Nat → St → Option R} {kr kr' : St → Option R} {e : Exit} {a : Act} {w : World} (h : Post base S0 σ0 r kn ke kr e a w)
    (h1 : ∀ s, kn s = some r → kn' s = some r) (h2 : ∀ i s, ke i s = some r → ke' i s = some r) (h3 : ∀ s, kr s = some r → kr' s = some r) : Post base S0 σ0 r kn' ke' kr' e a w := by
  obtain ⟨σ', s', k1, k2, k3, k4, k5, k6⟩ := h
  refine ⟨σ', s', k1, k2, k3, k4, k5, ?_⟩
  cases e with
  | normal => exact h1 _ k6
  | exit id => exact h2 _ _ k6
  | ret => exact h3 _ k6
  | _ => exact k6

/-- the rounds of a loop -/
theorem rounds_ok {d : Nat} {fid : FuncId} {body : Code} {sp : LoopSpec} {σ0 : Sit} (h0 : σ0.mem.length = 0) {kn : St → Option R} {ke : Nat → St → Option R} {kr : St → Option R}
    (hbody : ∀ (σ : Sit) (s : St) (a : Act) (kn' : St → Option R) (ke' : Nat → St → Option R) (kr' : St → Option R), Ok base S0 σ → Adv σ0 σ → RelT σ s a → s.m0 = σ0.mem.length →
      exec C (inlRun C d) true fid body s kn' ke' kr' = some r → body.wp C.P (Post base S0 σ0 r kn' ke' kr') a σ.w) :
    ∀ (n : Nat) (x : sp.pat.D) (σ : Sit) (a : Act), Ok base S0 σ → Adv σ0 σ → RelT σ (buildPat sp.pat x) a → iter (lBody C d fid body sp ke kr) n x = some r → Code.rounds C.P body (Post base S0 σ0 r kn ke kr) n a σ.w
  | 0, _, _, _, _, _, _, h => by simp [iter] at h
  | n + 1, x, σ, a, ho, hA, hr, h => by
    simp only [iter] at h
    unfold lBody at h
    have := hbody σ _ a _ _ _ ho hA hr (by rw [h0]; rfl) h
    rw [rounds_succ]
    refine wp_mono this fun e a' w' hp => ?_
    obtain ⟨σ', s', rfl, k2, k3, k4, k5, k6⟩ := hp
    cases e with
    | normal =>
      simp only at k6
      split at k6
      · rename_i y ey
        obtain ⟨σ1, g1, g2, g3, g4, g5⟩ := accUp_ok sp.accs k2 k4.clear rfl
        obtain ⟨σ2, q1, q2, q3, q4⟩ := readPat_ok g2 g4 ey
        have hA2 : Adv σ0 σ2 := adv_cut (k3.trans g3.adv) h0 q1 q2
        have := rounds_ok (kn := kn) h0 hbody n y σ2 a' q3 hA2 q4 k6
        rw [q1, g1] at this
        exact this
      · cases k6
    | exit id =>
      simp only at k6
      unfold outE at k6
      split at k6
      · split at k6
        · rename_i y ey
          obtain ⟨σ2, q1, q2, q3, q4⟩ := readPat_ok k2 k4 ey
          exact ⟨σ2, _, q1, q3, adv_cut k3 h0 q1 q2, q4, by rw [h0]; rfl, k6⟩
        · cases k6
      · cases k6
    | ret =>
      simp only at k6
      unfold outR at k6
      split at k6
      · split at k6
        · rename_i y ey
          obtain ⟨σ2, q1, q2, q3, q4⟩ := readPat_ok k2 k4 ey
          exact ⟨σ2, _, q1, q3, adv_cut k3 h0 q1 q2, q4, by rw [h0]; rfl, k6⟩
        · cases k6
      · cases k6
    | _ => exact k6.elim

/-- a piece of code does what exec says -/
theorem exec_ok (hP : ProgOk C) (hL : LoopsOk C) {inl : FuncId → List SV → Mem → (List SV → Mem → Option R) → Option R} (hI : InlOk C inl) {lp : Bool} (hlp : lp = true → ∃ d, inl = inlRun C (d + 2))
    {σ0 : Sit} (hG0 : GlobsOk C.globs σ0.w σ0.S) {fid : FuncId} {fn : Func} {whole : Code} (hf : C.P.funcs[fid]? = some fn) (hb : fn.body = some whole) :
    ∀ (c : Code), (∀ b ∈ loopsOf c, b ∈ loopsOf whole) → ∀ (σ : Sit) (s : St) (a : Act) (kn : St → Option R) (ke : Nat → St → Option R) (kr : St → Option R), Ok base S0 σ → Adv σ0 σ → RelT σ s a → s.m0 = σ0.mem.length →
      exec C inl lp fid c s kn ke kr = some r → c.wp C.P (Post base S0 σ0 r kn ke kr) a σ.w
  | .skip, _, σ, s, a, kn, ke, kr, ho, hA, hr, hm, h => wp_skip ⟨σ, s, rfl, ho, hA, hr, hm, h⟩
  | .exit id, _, σ, s, a, kn, ke, kr, ho, hA, hr, hm, h => wp_exit ⟨σ, s, rfl, ho, hA, hr, hm, h⟩
  | .ret, _, σ, s, a, kn, ke, kr, ho, hA, hr, hm, h => wp_ret ⟨σ, s, rfl, ho, hA, hr, hm, h⟩
  | .region id ops false, _, σ, s, a, kn, ke, kr, ho, hA, hr, hm, h => by
    simp only [exec] at h
    refine wp_mono (wp_region_list (runOps_ok hP hI ops (ke := ke) (kr := kr) hG0 ops.toList ho hA hr.clear hm h)) fun e a' w' hp => ?_
    obtain ⟨σ', s', k1, k2, k3, k4, k5, k6⟩ := hp
    cases e with
    | normal => exact ⟨σ', { s' with cs := [] }, k1, k2, k3, k4.clear, k5, k6⟩
    | exit id => exact ⟨σ', s', k1, k2, k3, k4, k5, k6⟩
    | ret => exact ⟨σ', s', k1, k2, k3, k4, k5, k6⟩
    | _ => exact k6.elim
  | .region id ops true, _, σ, s, a, kn, ke, kr, ho, hA, hr, hm, h => by
    simp only [exec] at h
    split at h
    · rename_i fps gs s' he
      obtain ⟨hd, h⟩ := cond_some h
      obtain ⟨hgs, h⟩ := chk_some h
      refine draw_ok hP hd he hgs rfl ho hr.clear (hG0.adv hA) fun σ' a' k1 k2 k3 k4 => ?_
      exact ⟨σ', { s' with cs := [] }, rfl, k1, hA.trans k2, k3.clear, k4.trans hm, h⟩
    · cases h
  | .seq c1 c2, hl, σ, s, a, kn, ke, kr, ho, hA, hr, hm, h => by
    simp only [exec] at h
    refine wp_seq (wp_mono (exec_ok hP hL hI hlp hG0 hf hb c1 (fun b hb' => hl b (by simp [loopsOf, hb'])) σ s a _ ke kr ho hA hr hm h) fun e a' w' hp => ?_)
    cases e with
    | normal =>
      obtain ⟨σ', s', rfl, k2, k3, k4, k5, k6⟩ := hp
      exact exec_ok hP hL hI hlp hG0 hf hb c2 (fun b hb' => hl b (by simp [loopsOf, hb'])) σ' s' a' kn ke kr k2 k3 k4 k5 k6
    | exit id => exact hp
    | ret => exact hp
    | goto l => exact hp
    | panic ch => exact hp
    | outgrown => exact hp
  | .cond c c1 c2, hl, σ, s, a, kn, ke, kr, ho, hA, hr, hm, h => by
    simp only [exec] at h
    split at h
    · rename_i t et
      obtain ⟨hv, _⟩ := ev1_ok hr (fun _ _ h => by simp at h) et
      refine wp_cond (t := t) hv ?_
      cases t with
      | true => exact exec_ok hP hL hI hlp hG0 hf hb c1 (fun b hb' => hl b (by simp [loopsOf, hb'])) σ s a kn ke kr ho hA hr hm h
      | false => exact exec_ok hP hL hI hlp hG0 hf hb c2 (fun b hb' => hl b (by simp [loopsOf, hb'])) σ s a kn ke kr ho hA hr hm h
    · cases h
  | .block id c, hl, σ, s, a, kn, ke, kr, ho, hA, hr, hm, h => by
    simp only [exec] at h
    refine wp_block (wp_mono (exec_ok hP hL hI hlp hG0 hf hb c (fun b hb' => hl b (by simp [loopsOf, hb'])) σ s a kn _ kr ho hA hr hm h) fun e a' w' hp => ?_)
    cases e with
    | normal => exact hp
    | exit id' =>
      obtain ⟨σ', s', k1, k2, k3, k4, k5, k6⟩ := hp
      simp only at k6
      simp only [Exit.inBlock]
      by_cases hid : id' = id
      · subst hid
        rw [if_pos rfl]
        rw [Nat.beq_refl] at k6
        exact ⟨σ', s', k1, k2, k3, k4, k5, k6⟩
      · rw [if_neg hid]
        have : Nat.beq id' id = false := by
          cases hq : Nat.beq id' id with
          | false => rfl
          | true => exact absurd (Nat.eq_of_beq_eq_true hq) hid
        rw [this] at k6
        exact ⟨σ', s', k1, k2, k3, k4, k5, k6⟩
    | ret => exact hp
    | goto l => exact hp
    | panic ch => exact hp
    | outgrown => exact hp
  | .loop c, hl, σ, s, a, kn, ke, kr, ho, hA, hr, hm, h => by
    simp only [exec] at h
    split at h
    · cases h
    · rename_i sp esp
      obtain ⟨hlpt, h1⟩ := cond_some h
      clear h
      split at h1
      · rename_i x ex
        obtain ⟨d, rfl⟩ := hlp hlpt
        subst hlpt
        obtain ⟨n, hn⟩ := hL fid _ sp esp fn whole hf hb c (hl c (by simp [loopsOf])) rfl d R ke kr r x h1
        obtain ⟨σ1, g1, g2, g3, g4, g5⟩ := accUp_ok sp.accs ho hr.clear rfl
        have h0 : σ0.mem.length = 0 := by rw [← hm]; exact g5.symm.trans (readPat_m0 ex)
        obtain ⟨σ2, q1, q2, q3, q4⟩ := readPat_ok g2 g4 ex
        have hA2 : Adv σ0 σ2 := adv_cut (hA.trans g3.adv) h0 q1 q2
        have := rounds_ok (kn := kn) h0 (fun σ s a kn' ke' kr' => exec_ok hP hL hI hlp hG0 hf hb c (fun b hb' => hl b (by simp [loopsOf, hb'])) σ s a kn' ke' kr') n x σ2 a q3 hA2 q4 hn
        rw [q1, g1] at this
        exact wp_loop_rounds n this
      · cases h1
  | .goto _, _, _, _, _, _, _, _, _, _, _, _, h => by simp [exec] at h
  | .label _, _, _, _, _, _, _, _, _, _, _, _, h => by simp [exec] at h
  | .rangeFunc _ _ _ _, _, _, _, _, _, _, _, _, _, _, _, h => by simp [exec] at h

end Vx
