/- The law WholeTwice holds: a sum, difference, product, quotient or root worked out in the wider format and then converted is the one of the narrower format. The package's tables read as its text lays them. -/
import Derived.Test.YtjaianlbnfomiaaGreatDoorVxG8
import Derived.Test.YtjaianlbnfomiaaGreatDoorRows
import Derived.Test.YtjaianlbnfomiaaGreatDoorCards
import Derived.Test.YtjaianlbnfomiaaGreatDoorTie
import Derived.SevenTiedAt
namespace Go.Proofs.YtjaianlbnfomiaaGreatDoor
open Go.ChangeShapes Go.WideShapes Go.ChangeAt Go.RowKit

theorem ownKey : ownKnob Tryz.prog.godebug = none := by kernel_rfl
theorem laidOutKey : laidOutB Tryz.prog = true := by kernel_rfl

theorem door_met (os : Os) (args : Array Value) : laidMetH Tryz.prog Rows.wholeTwiceRow.laid ((World.doorLaid Tryz.prog 400 os).forCall (fun _ _ => 0) ⟨#[], args, []⟩).memory :=
  laidMetH_of_parts3 (fuel := 8) (laidMet_of_run' 8 (by kernel_rfl) (by kernel_rfl)) (by kernel_rfl) (by kernel_rfl)

theorem globs_of {W : World} (h : laidMetH Tryz.prog Rows.wholeTwiceRow.laid W) : Vx.GlobsOk Vx.G1 W fun q => q < W.heap.size := by
  rw [MakeChecks.laidMetH_plain _ _ _ (by kernel_rfl)] at h
  obtain ⟨ps, hL, _⟩ := h
  obtain ⟨h0, ⟨_, hL1⟩⟩ := Vx.glob_of (g := 1) (m := 64) (e := 5) (t := 125) (k := 9) (τ := (.int .u8)) (xs := Vx.k_deb) hL (by kernel_rfl) (by kernel_rfl) (by kernel_rfl) (by kernel_rfl) (by kernel_rfl) (by kernel_rfl)
  obtain ⟨h1, _⟩ := Vx.glob_of (g := 0) (m := 4) (e := 48) (t := 95) (k := 9) (τ := Vx.rowsSh) (xs := Vx.k_rows) hL1 (by kernel_rfl) (by kernel_rfl) (by kernel_rfl) (by kernel_rfl) (by kernel_rfl) (by kernel_rfl)
  exact (Vx.globs_cons h1 (Vx.globs_cons h0 Vx.globs_nil))

theorem law (x : Vx.DenS Vx.I394) (h : Vx.wfS Vx.I394 x) : Vx.T394 x = some (true, ()) := by
  obtain ⟨⟨F, M, A, B, C, u⟩, v⟩ := x
  obtain ⟨⟨hF, hM, hA, hB, hC, _⟩, _⟩ := h
  obtain ⟨a, rfl⟩ := Int.eq_ofNat_of_zero_le hA.1
  obtain ⟨b, rfl⟩ := Int.eq_ofNat_of_zero_le hB.1
  obtain ⟨c, rfl⟩ := Int.eq_ofNat_of_zero_le hC.1
  have h2 : (a : Int) ≤ 18446744073709551615 := hA.2
  have h3 : (b : Int) ≤ 18446744073709551615 := hB.2
  have h4 : (c : Int) ≤ 18446744073709551615 := hC.2
  exact VL.T394_true F M (by omega) (by omega) (by omega)

set_option maxRecDepth 100000 in
theorem lifted (os : Os) (started : os.Started) (H : Type) (enc : TypeId × Value → H) :
    ReturnsInHanded {} Tryz.checked os 3 .any (fun w args => (Rows.wholeTwiceSpec.pre enc Tryz.prog Tryz.f3 [] false w args ∧ laidMetH Tryz.prog Rows.wholeTwiceRow.laid w) ∧ sizedMet enc Tryz.prog Tryz.f3 (OpenSpec.ofChange Rows.wholeTwiceSpec) false w args)
      (Rows.wholeTwiceSpec.post enc Tryz.prog Tryz.f3 false true false false) := by
  refine returnsInHanded_of_change_and (C := Tryz.checked) (X := fun w _ => laidMetH Tryz.prog Rows.wholeTwiceRow.laid w) (fun _ _ _ hh h => h.of_heap hh) ownKey started (by kernel_rfl) Tryz.func3
    (ChangeSpec.witness_shaped (enc := enc) (C := Tryz.checked) (os := os) (X := fun w _ => laidMetH Tryz.prog Rows.wholeTwiceRow.laid w) false (World.doorLaid Tryz.prog 400 os) #[.agg #[.int .i64 0, .int .i64 0, .int .u64 0, .int .u64 0, .int .u64 0]] 8 rfl (World.shaped_of_RefB (by kernel_rfl) (by kernel_rfl)) (by kernel_rfl) (by kernel_rfl) (by kernel_rfl) (door_met os _)) ?_
  intro W base args ds gs before hval0 hW _ _ hL _
  exact Vx.law_post (base := base) (n := 9) (tb := 4) Vx.S394_sound law ⟨_, Tryz.func3, by kernel_rfl, by kernel_rfl⟩ laidOutKey (by kernel_rfl) (by kernel_rfl) (by kernel_rfl) Tryz.underlying4 rfl
    (fun ds h => by
      match ds, h with
      | [_], _ => rfl)
    hval0 hW (globs_of hL)

theorem row_holds : Rows.WholeTwiceSaid :=
  OpenClaim.holds_of_wide 3 Tryz.f3 rfl rfl rfl rfl rfl rfl rfl ⟨rfl, rfl, rfl, rfl, rfl⟩ rfl rfl rfl rfl rfl (by kernel_rfl) Tryz.func3 (by kernel_rfl)
    (of_decide_eq_true (by kernel_rfl)) (by unfold Func.isWrapper; first | (rw [if_pos (by decide +kernel)]; kernel_rfl) | (rw [if_neg (by decide +kernel)]; exact ⟨rfl, rfl⟩))
    (fun os started H enc _ => lifted os started H enc)

theorem card_holds : Rows.WholeTwiceCardSaid :=
  Claim7.holds_tied_plain_at .later [] [.data, .data] true (true, "b2c01077cfc9185def1b550e987437db17afa5d73de2c03dec3e2c60fccc6ec0") false
    row_holds (fun _ h => by cases h) (by kernel_rfl) (fun _ h => by cases h) wholeTwice_row_tie rfl ⟨rfl, rfl⟩ (by kernel_rfl) rfl
    (fun f fn hf hfn => by
      obtain rfl : f = 3 := Option.some.inj ((show Tryz.prog.funcNamed "vernier/verniertop.WholeTwice" = some 3 by kernel_rfl).symm.trans hf) |>.symm
      obtain rfl : fn = Tryz.f3 := (Option.some.inj (Tryz.func3.symm.trans hfn)).symm
      exact ⟨by kernel_rfl, fun j t ht => by
        have hm : t ∈ Tryz.f3.params.toList := by simpa using Array.mem_of_getElem? ht
        have hall : (Tryz.f3.params.toList.all fun u => !Tryz.prog.wantsStandIn u) = true := by kernel_rfl
        exact (show Tryz.prog.wantsStandIn t = false by simpa using List.all_eq_true.1 hall t hm)⟩)
    (by kernel_rfl)
#print axioms card_holds

end Go.Proofs.YtjaianlbnfomiaaGreatDoor
