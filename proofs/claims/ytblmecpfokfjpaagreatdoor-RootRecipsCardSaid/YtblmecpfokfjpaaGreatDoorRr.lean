/- The law RootRecips holds: every RecipSqrt is the one of the document: pattern, flags and error. The package's tables read as its text lays them. -/
import Derived.Test.YtblmecpfokfjpaaGreatDoorVxG8
import Derived.Test.YtblmecpfokfjpaaGreatDoorRows
import Derived.Test.YtblmecpfokfjpaaGreatDoorCards
import Derived.Test.YtblmecpfokfjpaaGreatDoorTie
import Derived.SevenTiedAt
namespace Go.Proofs.YtblmecpfokfjpaaGreatDoor
open Go.ChangeShapes Go.WideShapes Go.ChangeAt Go.RowKit

theorem ownKey : ownKnob Tryz.prog.godebug = none := by kernel_rfl
theorem laidOutKey : laidOutB Tryz.prog = true := by kernel_rfl

theorem door_met (os : Os) (args : Array Value) : laidMetH Tryz.prog Rows.rootRecipsRow.laid ((World.doorLaid Tryz.prog 400 os).forCall (fun _ _ => 0) ⟨#[], args, []⟩).memory :=
  laidMetH_of_parts3 (fuel := 8) (laidMet_of_run' 8 (by kernel_rfl) (by kernel_rfl)) (by kernel_rfl) (by kernel_rfl)

theorem globs_of {W : World} (h : laidMetH Tryz.prog Rows.rootRecipsRow.laid W) : Vx.GlobsOk Vx.G1 W fun q => q < W.heap.size := by
  rw [MakeChecks.laidMetH_plain _ _ _ (by kernel_rfl)] at h
  obtain ⟨ps, hL, _⟩ := h
  obtain ⟨h0, ⟨_, hL1⟩⟩ := Vx.glob_of (g := 3) (m := 64) (e := 5) (t := 146) (k := 9) (τ := (.int .u8)) (xs := Vx.k_deb) hL (by kernel_rfl) (by kernel_rfl) (by kernel_rfl) (by kernel_rfl) (by kernel_rfl) (by kernel_rfl)
  obtain ⟨h1, _⟩ := Vx.glob_of (g := 0) (m := 4) (e := 39) (t := 90) (k := 9) (τ := Vx.rowsSh) (xs := Vx.k_rows) hL1 (by kernel_rfl) (by kernel_rfl) (by kernel_rfl) (by kernel_rfl) (by kernel_rfl) (by kernel_rfl)
  exact (Vx.globs_cons h1 (Vx.globs_cons h0 Vx.globs_nil))

theorem law (x : Vx.DenS Vx.I348) (h : Vx.wfS Vx.I348 x) : Vx.T348 x = some (true, ()) := by
  obtain ⟨F, M, A, u⟩ := x
  obtain ⟨hF, hM, hA, _⟩ := h
  obtain ⟨a, rfl⟩ := Int.eq_ofNat_of_zero_le hA.1
  have h2 : (a : Int) ≤ 18446744073709551615 := hA.2
  exact VL.T348_true F M (by omega)

set_option maxRecDepth 100000 in
theorem lifted (os : Os) (started : os.Started) (H : Type) (enc : TypeId × Value → H) :
    ReturnsInHanded {} Tryz.checked os 5 .any (fun w args => (Rows.rootRecipsSpec.pre enc Tryz.prog Tryz.f5 [] false w args ∧ laidMetH Tryz.prog Rows.rootRecipsRow.laid w) ∧ sizedMet enc Tryz.prog Tryz.f5 (OpenSpec.ofChange Rows.rootRecipsSpec) false w args)
      (Rows.rootRecipsSpec.post enc Tryz.prog Tryz.f5 false true false false) := by
  refine returnsInHanded_of_change_and (C := Tryz.checked) (X := fun w _ => laidMetH Tryz.prog Rows.rootRecipsRow.laid w) (fun _ _ _ hh h => h.of_heap hh) ownKey started (by kernel_rfl) Tryz.func5
    (ChangeSpec.witness_shaped (enc := enc) (C := Tryz.checked) (os := os) (X := fun w _ => laidMetH Tryz.prog Rows.rootRecipsRow.laid w) false (World.doorLaid Tryz.prog 400 os) #[.int .i64 0, .int .i64 0, .int .u64 0] 8 rfl (World.shaped_of_RefB (by kernel_rfl) (by kernel_rfl)) (by kernel_rfl) (by kernel_rfl) (by kernel_rfl) (door_met os _)) ?_
  intro W base args ds gs before hval0 hW _ _ hL _
  exact Vx.law_post (base := base) (n := 9) (tb := 4) Vx.S348_sound law ⟨_, Tryz.func5, by kernel_rfl, by kernel_rfl⟩ laidOutKey (by kernel_rfl) (by kernel_rfl) (by kernel_rfl) Tryz.underlying4 rfl
    (fun ds h => by
      match ds, h with
      | [_, _, _], _ => rfl)
    hval0 hW (globs_of hL)

theorem row_holds : Rows.RootRecipsSaid :=
  OpenClaim.holds_of_wide 5 Tryz.f5 rfl rfl rfl rfl rfl rfl rfl ⟨rfl, rfl, rfl, rfl, rfl⟩ rfl rfl rfl rfl rfl (by kernel_rfl) Tryz.func5 (by kernel_rfl)
    (of_decide_eq_true (by kernel_rfl)) (by unfold Func.isWrapper; first | (rw [if_pos (by decide +kernel)]; kernel_rfl) | (rw [if_neg (by decide +kernel)]; exact ⟨rfl, rfl⟩))
    (fun os started H enc _ => lifted os started H enc)

theorem card_holds : Rows.RootRecipsCardSaid :=
  Claim7.holds_tied_plain_at .later [] [.data, .data] true (true, "34d31b892def0f1959777376864a17a9a75e2a51af26bbb427f5b0fa3d02327f") false
    row_holds (fun _ h => by cases h) (by kernel_rfl) (fun _ h => by cases h) rootRecips_row_tie rfl ⟨rfl, rfl⟩ (by kernel_rfl) rfl
    (fun f fn hf hfn => by
      obtain rfl : f = 5 := Option.some.inj ((show Tryz.prog.funcNamed "vernier/vernierlaw10.RootRecips" = some 5 by kernel_rfl).symm.trans hf) |>.symm
      obtain rfl : fn = Tryz.f5 := (Option.some.inj (Tryz.func5.symm.trans hfn)).symm
      exact ⟨by kernel_rfl, fun j t ht => by
        have hm : t ∈ Tryz.f5.params.toList := by simpa using Array.mem_of_getElem? ht
        have hall : (Tryz.f5.params.toList.all fun u => !Tryz.prog.wantsStandIn u) = true := by kernel_rfl
        exact (show Tryz.prog.wantsStandIn t = false by simpa using List.all_eq_true.1 hall t hm)⟩)
    (by kernel_rfl)
#print axioms card_holds

end Go.Proofs.YtblmecpfokfjpaaGreatDoor
