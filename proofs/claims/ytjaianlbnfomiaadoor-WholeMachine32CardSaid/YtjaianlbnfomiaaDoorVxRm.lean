/- The law WholeMachine32 holds: sums, differences, products and quotients of Singles, to the nearest even, are the machine's own. The package's tables read as its text lays them. -/
import Derived.Test.YtjaianlbnfomiaaDoorVxG7
import Derived.Test.YtjaianlbnfomiaaDoorRows
import Derived.Test.YtjaianlbnfomiaaDoorCards
import Derived.Test.YtjaianlbnfomiaaDoorTie
import Derived.SevenTiedAt
namespace Go.Proofs.YtjaianlbnfomiaaDoor
open Go.ChangeShapes Go.WideShapes Go.ChangeAt Go.RowKit

theorem ownKey : ownKnob Tryd.prog.godebug = none := by kernel_rfl
theorem laidOutKey : laidOutB Tryd.prog = true := by kernel_rfl

theorem door_met (os : Os) (args : Array Value) : laidMetH Tryd.prog Rows.wholeMachine32Row.laid ((World.doorLaid Tryd.prog 400 os).forCall (fun _ _ => 0) ⟨#[], args, []⟩).memory :=
  laidMetH_of_parts3 (fuel := 8) (laidMet_of_run' 8 (by kernel_rfl) (by kernel_rfl)) (by kernel_rfl) (by kernel_rfl)

theorem globs_of {W : World} (h : laidMetH Tryd.prog Rows.wholeMachine32Row.laid W) : Vx.GlobsOk Vx.G1 W fun q => q < W.heap.size := by
  rw [MakeChecks.laidMetH_plain _ _ _ (by kernel_rfl)] at h
  obtain ⟨ps, hL, _⟩ := h
  obtain ⟨h0, ⟨_, hL1⟩⟩ := Vx.glob_of (g := 2) (m := 64) (e := 5) (t := 105) (k := 9) (τ := (.int .u8)) (xs := Vx.k_deb) hL (by kernel_rfl) (by kernel_rfl) (by kernel_rfl) (by kernel_rfl) (by kernel_rfl) (by kernel_rfl)
  obtain ⟨h1, _⟩ := Vx.glob_of (g := 1) (m := 4) (e := 36) (t := 71) (k := 9) (τ := Vx.rowsSh) (xs := Vx.k_rows) hL1 (by kernel_rfl) (by kernel_rfl) (by kernel_rfl) (by kernel_rfl) (by kernel_rfl) (by kernel_rfl)
  exact (Vx.globs_cons h1 (Vx.globs_cons h0 Vx.globs_nil))

theorem law (x : Vx.DenS Vx.I384) (h : Vx.wfS Vx.I384 x) : Vx.T384 x = some (true, ()) := by
  obtain ⟨A, B, u⟩ := x
  obtain ⟨hA, hB, _⟩ := h
  obtain ⟨a, rfl⟩ := Int.eq_ofNat_of_zero_le hA.1
  obtain ⟨b, rfl⟩ := Int.eq_ofNat_of_zero_le hB.1
  have h2 : (a : Int) ≤ 4294967295 := hA.2
  have h3 : (b : Int) ≤ 4294967295 := hB.2
  exact VL.T384_true (by omega) (by omega)

set_option maxRecDepth 100000 in
theorem lifted (os : Os) (started : os.Started) (H : Type) (enc : TypeId × Value → H) :
    ReturnsInHanded {} Tryd.checked os 3 .any (fun w args => (Rows.wholeMachine32Spec.pre enc Tryd.prog Tryd.f3 [] false w args ∧ laidMetH Tryd.prog Rows.wholeMachine32Row.laid w) ∧ sizedMet enc Tryd.prog Tryd.f3 (OpenSpec.ofChange Rows.wholeMachine32Spec) false w args)
      (Rows.wholeMachine32Spec.post enc Tryd.prog Tryd.f3 false true false false) := by
  refine returnsInHanded_of_change_and (C := Tryd.checked) (X := fun w _ => laidMetH Tryd.prog Rows.wholeMachine32Row.laid w) (fun _ _ _ hh h => h.of_heap hh) ownKey started (by kernel_rfl) Tryd.func3
    (ChangeSpec.witness_shaped (enc := enc) (C := Tryd.checked) (os := os) (X := fun w _ => laidMetH Tryd.prog Rows.wholeMachine32Row.laid w) false (World.doorLaid Tryd.prog 400 os) #[.int .u32 0, .int .u32 0] 8 rfl (World.shaped_of_RefB (by kernel_rfl) (by kernel_rfl)) (by kernel_rfl) (by kernel_rfl) (by kernel_rfl) (door_met os _)) ?_
  intro W base args ds gs before hval0 hW _ _ hL _
  exact Vx.law_post (base := base) (n := 9) (tb := 4) Vx.S384_sound law ⟨_, Tryd.func3, by kernel_rfl, by kernel_rfl⟩ laidOutKey (by kernel_rfl) (by kernel_rfl) (by kernel_rfl) Tryd.underlying4 rfl
    (fun ds h => by
      match ds, h with
      | [_, _], _ => rfl)
    hval0 hW (globs_of hL)

theorem row_holds : Rows.WholeMachine32Said :=
  OpenClaim.holds_of_wide 3 Tryd.f3 rfl rfl rfl rfl rfl rfl rfl ⟨rfl, rfl, rfl, rfl, rfl⟩ rfl rfl rfl rfl rfl (by kernel_rfl) Tryd.func3 (by kernel_rfl)
    (of_decide_eq_true (by kernel_rfl)) (by unfold Func.isWrapper; first | (rw [if_pos (by decide +kernel)]; kernel_rfl) | (rw [if_neg (by decide +kernel)]; exact ⟨rfl, rfl⟩))
    (fun os started H enc _ => lifted os started H enc)

theorem card_holds : Rows.WholeMachine32CardSaid :=
  Claim7.holds_tied_plain_at .later [] [.data, .data] true (true, "ad30750fa382e8c09bf998d7aeb73b94c0f8c460e318d9dae603b3c245bd8f5b") false
    row_holds (fun _ h => by cases h) (by kernel_rfl) (fun _ h => by cases h) wholeMachine32_row_tie rfl ⟨rfl, rfl⟩ (by kernel_rfl) rfl
    (fun f fn hf hfn => by
      obtain rfl : f = 3 := Option.some.inj ((show Tryd.prog.funcNamed "vernier/verniertop.WholeMachine32" = some 3 by kernel_rfl).symm.trans hf) |>.symm
      obtain rfl : fn = Tryd.f3 := (Option.some.inj (Tryd.func3.symm.trans hfn)).symm
      exact ⟨by kernel_rfl, fun j t ht => by
        have hm : t ∈ Tryd.f3.params.toList := by simpa using Array.mem_of_getElem? ht
        have hall : (Tryd.f3.params.toList.all fun u => !Tryd.prog.wantsStandIn u) = true := by kernel_rfl
        exact (show Tryd.prog.wantsStandIn t = false by simpa using List.all_eq_true.1 hall t hm)⟩)
    (by kernel_rfl)
#print axioms card_holds

end Go.Proofs.YtjaianlbnfomiaaDoor
