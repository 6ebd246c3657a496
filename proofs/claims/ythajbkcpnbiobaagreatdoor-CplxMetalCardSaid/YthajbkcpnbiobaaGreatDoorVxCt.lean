/- The law CplxMetal holds: the calls by the machine are those by the unit in Double to the nearest even, and the document's steps. The package's tables read as its text lays them. -/
import Derived.Test.YthajbkcpnbiobaaGreatDoorVxG8
import Derived.Test.YthajbkcpnbiobaaGreatDoorRows
import Derived.Test.YthajbkcpnbiobaaGreatDoorCards
import Derived.Test.YthajbkcpnbiobaaGreatDoorTie
import Derived.SevenTiedAt
namespace Go.Proofs.YthajbkcpnbiobaaGreatDoor
open Go.ChangeShapes Go.WideShapes Go.ChangeAt Go.RowKit

theorem ownKey : ownKnob Tryz.prog.godebug = none := by kernel_rfl
theorem laidOutKey : laidOutB Tryz.prog = true := by kernel_rfl

theorem door_met (os : Os) (args : Array Value) : laidMetH Tryz.prog Rows.cplxMetalRow.laid ((World.doorLaid Tryz.prog 400 os).forCall (fun _ _ => 0) ⟨#[], args, []⟩).memory :=
  laidMetH_of_parts3 (fuel := 8) (laidMet_of_run' 8 (by kernel_rfl) (by kernel_rfl)) (by kernel_rfl) (by kernel_rfl)

theorem globs_of {W : World} (h : laidMetH Tryz.prog Rows.cplxMetalRow.laid W) : Vx.GlobsOk Vx.G1 W fun q => q < W.heap.size := by
  rw [MakeChecks.laidMetH_plain _ _ _ (by kernel_rfl)] at h
  obtain ⟨ps, hL, _⟩ := h
  obtain ⟨h0, ⟨_, hL1⟩⟩ := Vx.glob_of (g := 5) (m := 64) (e := 5) (t := 274) (k := 9) (τ := (.int .u8)) (xs := Vx.k_deb) hL (by kernel_rfl) (by kernel_rfl) (by kernel_rfl) (by kernel_rfl) (by kernel_rfl) (by kernel_rfl)
  obtain ⟨h1, ⟨_, hL2⟩⟩ := Vx.glob_of (g := 1) (m := 4) (e := 97) (t := 123) (k := 9) (τ := Vx.rowsSh) (xs := Vx.k_rows) hL1 (by kernel_rfl) (by kernel_rfl) (by kernel_rfl) (by kernel_rfl) (by kernel_rfl) (by kernel_rfl)
  obtain ⟨h2, _⟩ := Vx.glob_of (g := 4) (m := 4) (e := 258) (t := 259) (k := 9) (τ := Vx.kindsSh) (xs := Vx.k_kinds) hL2 (by kernel_rfl) (by kernel_rfl) (by kernel_rfl) (by kernel_rfl) (by kernel_rfl) (by kernel_rfl)
  exact (Vx.globs_cons h1 (Vx.globs_cons h2 (Vx.globs_cons h0 Vx.globs_nil)))

theorem law (x : Vx.DenS Vx.I503) (h : Vx.wfS Vx.I503 x) : Vx.T503 x = some (true, ()) := by
  obtain ⟨⟨A, B, _⟩, ⟨C, D, _⟩, _⟩ := x
  obtain ⟨⟨hA, hB, _⟩, ⟨hC, hD, _⟩, _⟩ := h
  obtain ⟨a, rfl⟩ := Int.eq_ofNat_of_zero_le hA.1
  obtain ⟨b, rfl⟩ := Int.eq_ofNat_of_zero_le hB.1
  obtain ⟨c, rfl⟩ := Int.eq_ofNat_of_zero_le hC.1
  obtain ⟨d, rfl⟩ := Int.eq_ofNat_of_zero_le hD.1
  have h1 : (a : Int) ≤ 18446744073709551615 := hA.2
  have h2 : (b : Int) ≤ 18446744073709551615 := hB.2
  have h3 : (c : Int) ≤ 18446744073709551615 := hC.2
  have h4 : (d : Int) ≤ 18446744073709551615 := hD.2
  exact VL.T503_true (x := (a, b)) (y := (c, d)) ⟨by show a < 2 ^ 64; omega, by show b < 2 ^ 64; omega⟩ ⟨by show c < 2 ^ 64; omega, by show d < 2 ^ 64; omega⟩

set_option maxRecDepth 100000 in
theorem lifted (os : Os) (started : os.Started) (H : Type) (enc : TypeId × Value → H) :
    ReturnsInHanded {} Tryz.checked os 5 .any (fun w args => (Rows.cplxMetalSpec.pre enc Tryz.prog Tryz.f5 [] false w args ∧ laidMetH Tryz.prog Rows.cplxMetalRow.laid w) ∧ sizedMet enc Tryz.prog Tryz.f5 (OpenSpec.ofChange Rows.cplxMetalSpec) false w args)
      (Rows.cplxMetalSpec.post enc Tryz.prog Tryz.f5 false true false false) := by
  refine returnsInHanded_of_change_and (C := Tryz.checked) (X := fun w _ => laidMetH Tryz.prog Rows.cplxMetalRow.laid w) (fun _ _ _ hh h => h.of_heap hh) ownKey started (by kernel_rfl) Tryz.func5
    (ChangeSpec.witness_shaped (enc := enc) (C := Tryz.checked) (os := os) (X := fun w _ => laidMetH Tryz.prog Rows.cplxMetalRow.laid w) false (World.doorLaid Tryz.prog 400 os) #[.agg #[.int .u64 0, .int .u64 0], .agg #[.int .u64 0, .int .u64 0]] 8 rfl (World.shaped_of_RefB (by kernel_rfl) (by kernel_rfl)) (by kernel_rfl) (by kernel_rfl) (by kernel_rfl) (door_met os _)) ?_
  intro W base args ds gs before hval0 hW _ _ hL _
  exact Vx.law_post (base := base) (n := 9) (tb := 4) Vx.S503_sound law ⟨_, Tryz.func5, by kernel_rfl, by kernel_rfl⟩ laidOutKey (by kernel_rfl) (by kernel_rfl) (by kernel_rfl) Tryz.underlying4 rfl
    (fun ds h => by
      match ds, h with
      | [_, _], _ => rfl)
    hval0 hW (globs_of hL)

theorem rowInPlace : Tryz.pinned.checked.prog.inPlace 5 = Rows.cplxMetalRow.inPlace := by kernel_rfl
theorem rowUnfollowed : Tryz.pinned.checked.prog.unfollowed 5 = Rows.cplxMetalRow.unfollowed := by kernel_rfl
theorem rowRecurses : Tryz.pinned.checked.prog.recurses 5 = Rows.cplxMetalRow.recurses := by kernel_rfl
theorem rowNamed : Tryz.pinned.checked.prog.varsNamed 5 = Rows.cplxMetalRow.named := by kernel_rfl
theorem rowFacts : joinedFacts Tryz.pinned.checked.prog 5 Tryz.f5 Rows.cplxMetalSpec Rows.cplxMetalRow = true := by
  unfold joinedFacts
  rw [rowInPlace, rowUnfollowed, rowRecurses, rowNamed]
  kernel_rfl

theorem row_holds : Rows.CplxMetalSaid :=
  OpenClaim.holds_of_wide 5 Tryz.f5 rfl rfl rfl rfl rfl rfl rfl ⟨rfl, rfl, rfl, rfl, rfl⟩ rfl rfl rfl rfl rfl (by kernel_rfl) Tryz.func5 rowFacts
    (of_decide_eq_true (by kernel_rfl)) (by unfold Func.isWrapper; first | (rw [if_pos (by decide +kernel)]; kernel_rfl) | (rw [if_neg (by decide +kernel)]; exact ⟨rfl, rfl⟩))
    (fun os started H enc _ => lifted os started H enc)

theorem cardWf : Rows.cplxMetalRow.wfByText (OpenSpec.ofChange Rows.cplxMetalSpec) = true := by kernel_rfl
theorem cardMain : Tryz.pinned.checked.prog.mainIs = some ((true, "f4d57e94770c8e07f77ac795e7d614102c913b9c5527a5a691a146cf201b7e7b").1, (true, "f4d57e94770c8e07f77ac795e7d614102c913b9c5527a5a691a146cf201b7e7b").2.toList) := by kernel_rfl
theorem cardLooks : false = Tryz.pinned.checked.prog.looks [] := by kernel_rfl
theorem cardStand : (Tryz.f5.params.toList.all fun u => !Tryz.prog.wantsStandIn u) = true := by kernel_rfl
theorem cardNamed : Tryz.prog.funcNamed "vernier/vernierlaw24.CplxMetal" = some 5 := by kernel_rfl
theorem cardGoes : false = Rows.cplxMetalRow.goesBy Tryz.pinned.checked.prog := by kernel_rfl

theorem card_holds : Rows.CplxMetalCardSaid :=
  Claim7.holds_tied_plain_at .later [] [.data, .data, .data] true (true, "f4d57e94770c8e07f77ac795e7d614102c913b9c5527a5a691a146cf201b7e7b") false
    row_holds (fun _ h => by cases h) cardWf (fun _ h => by cases h) cplxMetal_row_tie rfl ⟨rfl, rfl⟩ cardMain rfl
    (fun f fn hf hfn => by
      obtain rfl : f = 5 := Option.some.inj (cardNamed.symm.trans hf) |>.symm
      obtain rfl : fn = Tryz.f5 := (Option.some.inj (Tryz.func5.symm.trans hfn)).symm
      exact ⟨cardLooks, fun j t ht => by
        have hm : t ∈ Tryz.f5.params.toList := by simpa using Array.mem_of_getElem? ht
        exact (show Tryz.prog.wantsStandIn t = false by simpa using List.all_eq_true.1 cardStand t hm)⟩)
    cardGoes
#print axioms card_holds

end Go.Proofs.YthajbkcpnbiobaaGreatDoor
