/- The law CplxAlls holds: every sum, product and quotient of complex numbers by the unit is the document's: parts, flags, error. The package's tables read as its text lays them. -/
import Derived.Test.YthajbkcpnbiobaaGreatDoorVxG8
import Derived.Test.YthajbkcpnbiobaaGreatDoorRows
import Derived.Test.YthajbkcpnbiobaaGreatDoorCards
import Derived.Test.YthajbkcpnbiobaaGreatDoorTie
import Derived.SevenTiedAt
namespace Go.Proofs.YthajbkcpnbiobaaGreatDoor
open Go.ChangeShapes Go.WideShapes Go.ChangeAt Go.RowKit

theorem ownKey : ownKnob Tryz.prog.godebug = none := by kernel_rfl
theorem laidOutKey : laidOutB Tryz.prog = true := by kernel_rfl

theorem door_met (os : Os) (args : Array Value) : laidMetH Tryz.prog Rows.cplxAllsRow.laid ((World.doorLaid Tryz.prog 400 os).forCall (fun _ _ => 0) ⟨#[], args, []⟩).memory :=
  laidMetH_of_parts3 (fuel := 8) (laidMet_of_run' 8 (by kernel_rfl) (by kernel_rfl)) (by kernel_rfl) (by kernel_rfl)

theorem globs_of {W : World} (h : laidMetH Tryz.prog Rows.cplxAllsRow.laid W) : Vx.GlobsOk Vx.G1 W fun q => q < W.heap.size := by
  rw [MakeChecks.laidMetH_plain _ _ _ (by kernel_rfl)] at h
  obtain ⟨ps, hL, _⟩ := h
  obtain ⟨h0, ⟨_, hL1⟩⟩ := Vx.glob_of (g := 5) (m := 64) (e := 5) (t := 274) (k := 9) (τ := (.int .u8)) (xs := Vx.k_deb) hL (by kernel_rfl) (by kernel_rfl) (by kernel_rfl) (by kernel_rfl) (by kernel_rfl) (by kernel_rfl)
  obtain ⟨h1, ⟨_, hL2⟩⟩ := Vx.glob_of (g := 1) (m := 4) (e := 97) (t := 123) (k := 9) (τ := Vx.rowsSh) (xs := Vx.k_rows) hL1 (by kernel_rfl) (by kernel_rfl) (by kernel_rfl) (by kernel_rfl) (by kernel_rfl) (by kernel_rfl)
  obtain ⟨h2, _⟩ := Vx.glob_of (g := 4) (m := 4) (e := 258) (t := 259) (k := 9) (τ := Vx.kindsSh) (xs := Vx.k_kinds) hL2 (by kernel_rfl) (by kernel_rfl) (by kernel_rfl) (by kernel_rfl) (by kernel_rfl) (by kernel_rfl)
  exact (Vx.globs_cons h1 (Vx.globs_cons h2 (Vx.globs_cons h0 Vx.globs_nil)))

theorem law (x : Vx.DenS Vx.I493) (h : Vx.wfS Vx.I493 x) : Vx.T493 x = some (true, ()) := by
  refine VL.T493_true x.1 (fun e he => ?_) h.1.1
  obtain ⟨_, _, _, ⟨hA, hB, _⟩, ⟨hC, hD, _⟩, _⟩ := h.1.2 e he
  exact ⟨⟨⟨hA.1, Int.lt_of_le_of_lt hA.2 (by decide)⟩, hB.1, Int.lt_of_le_of_lt hB.2 (by decide)⟩, ⟨hC.1, Int.lt_of_le_of_lt hC.2 (by decide)⟩, hD.1, Int.lt_of_le_of_lt hD.2 (by decide)⟩

set_option maxRecDepth 100000 in
theorem lifted (os : Os) (started : os.Started) (H : Type) (enc : TypeId × Value → H) :
    ReturnsInHanded {} Tryz.checked os 3 .any (fun w args => (Rows.cplxAllsSpec.pre enc Tryz.prog Tryz.f3 [] false w args ∧ laidMetH Tryz.prog Rows.cplxAllsRow.laid w) ∧ sizedMet enc Tryz.prog Tryz.f3 (OpenSpec.ofChange Rows.cplxAllsSpec) false w args)
      (Rows.cplxAllsSpec.post enc Tryz.prog Tryz.f3 false true false false) := by
  refine returnsInHanded_of_change_and (C := Tryz.checked) (X := fun w _ => laidMetH Tryz.prog Rows.cplxAllsRow.laid w) (fun _ _ _ hh h => h.of_heap hh) ownKey started (by kernel_rfl) Tryz.func3
    (ChangeSpec.witness_shaped (enc := enc) (C := Tryz.checked) (os := os) (X := fun w _ => laidMetH Tryz.prog Rows.cplxAllsRow.laid w) false (World.doorLaid Tryz.prog 400 os) #[.slice none 0 0] 8 rfl (World.shaped_of_RefB (by kernel_rfl) (by kernel_rfl)) (by kernel_rfl) (by kernel_rfl) (by kernel_rfl) (door_met os _)) ?_
  intro W base args ds gs before hval0 hW _ _ hL _
  exact Vx.law_post (base := base) (n := 9) (tb := 4) Vx.S493_sound law ⟨_, Tryz.func3, by kernel_rfl, by kernel_rfl⟩ laidOutKey (by kernel_rfl) (by kernel_rfl) (by kernel_rfl) Tryz.underlying4 rfl
    (fun ds h => by
      match ds, h with
      | [_], _ => rfl)
    hval0 hW (globs_of hL)

theorem rowInPlace : Tryz.pinned.checked.prog.inPlace 3 = Rows.cplxAllsRow.inPlace := by kernel_rfl
theorem rowUnfollowed : Tryz.pinned.checked.prog.unfollowed 3 = Rows.cplxAllsRow.unfollowed := by kernel_rfl
theorem rowRecurses : Tryz.pinned.checked.prog.recurses 3 = Rows.cplxAllsRow.recurses := by kernel_rfl
theorem rowNamed : Tryz.pinned.checked.prog.varsNamed 3 = Rows.cplxAllsRow.named := by kernel_rfl
theorem rowFacts : joinedFacts Tryz.pinned.checked.prog 3 Tryz.f3 Rows.cplxAllsSpec Rows.cplxAllsRow = true := by
  unfold joinedFacts
  rw [rowInPlace, rowUnfollowed, rowRecurses, rowNamed]
  kernel_rfl

theorem row_holds : Rows.CplxAllsSaid :=
  OpenClaim.holds_of_wide 3 Tryz.f3 rfl rfl rfl rfl rfl rfl rfl ⟨rfl, rfl, rfl, rfl, rfl⟩ rfl rfl rfl rfl rfl (by kernel_rfl) Tryz.func3 rowFacts
    (of_decide_eq_true (by kernel_rfl)) (by unfold Func.isWrapper; first | (rw [if_pos (by decide +kernel)]; kernel_rfl) | (rw [if_neg (by decide +kernel)]; exact ⟨rfl, rfl⟩))
    (fun os started H enc _ => lifted os started H enc)

theorem cardWf : Rows.cplxAllsRow.wfByText (OpenSpec.ofChange Rows.cplxAllsSpec) = true := by kernel_rfl
theorem cardMain : Tryz.pinned.checked.prog.mainIs = some ((true, "f4d57e94770c8e07f77ac795e7d614102c913b9c5527a5a691a146cf201b7e7b").1, (true, "f4d57e94770c8e07f77ac795e7d614102c913b9c5527a5a691a146cf201b7e7b").2.toList) := by kernel_rfl
theorem cardLooks : false = Tryz.pinned.checked.prog.looks [] := by kernel_rfl
theorem cardStand : (Tryz.f3.params.toList.all fun u => !Tryz.prog.wantsStandIn u) = true := by kernel_rfl
theorem cardNamed : Tryz.prog.funcNamed "vernier/vernierlaw24.CplxAlls" = some 3 := by kernel_rfl
theorem cardGoes : false = Rows.cplxAllsRow.goesBy Tryz.pinned.checked.prog := by kernel_rfl

theorem card_holds : Rows.CplxAllsCardSaid :=
  Claim7.holds_tied_plain_at .later [] [.data, .data, .data] true (true, "f4d57e94770c8e07f77ac795e7d614102c913b9c5527a5a691a146cf201b7e7b") false
    row_holds (fun _ h => by cases h) cardWf (fun _ h => by cases h) cplxAlls_row_tie rfl ⟨rfl, rfl⟩ cardMain rfl
    (fun f fn hf hfn => by
      obtain rfl : f = 3 := Option.some.inj (cardNamed.symm.trans hf) |>.symm
      obtain rfl : fn = Tryz.f3 := (Option.some.inj (Tryz.func3.symm.trans hfn)).symm
      exact ⟨cardLooks, fun j t ht => by
        have hm : t ∈ Tryz.f3.params.toList := by simpa using Array.mem_of_getElem? ht
        exact (show Tryz.prog.wantsStandIn t = false by simpa using List.all_eq_true.1 cardStand t hm)⟩)
    cardGoes
#print axioms card_holds

end Go.Proofs.YthajbkcpnbiobaaGreatDoor
