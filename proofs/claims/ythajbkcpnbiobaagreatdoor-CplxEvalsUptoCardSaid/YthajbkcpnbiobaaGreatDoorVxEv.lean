/- The law CplxEvals holds, where what it reads is of bulk at most 1048576: Eval is the reference's, the list stays, MetalEval is Eval in Double to the nearest even. The package's tables read as its text lays them. -/
import Derived.Test.YthajbkcpnbiobaaGreatDoorVxG8
import Derived.Test.YthajbkcpnbiobaaGreatDoorRows
import Derived.Test.YthajbkcpnbiobaaGreatDoorCards
import Derived.Test.YthajbkcpnbiobaaGreatDoorTie
import Derived.SevenTiedAt
import Derived.Deep.DeepHandedRow
namespace Go.Proofs.YthajbkcpnbiobaaGreatDoor
open Go.ChangeShapes Go.WideShapes Go.ChangeAt Go.RowKit

theorem ownKey : ownKnob Tryz.prog.godebug = none := by kernel_rfl
theorem laidOutKey : laidOutB Tryz.prog = true := by kernel_rfl

theorem door_met (os : Os) (args : Array Value) : laidMetH Tryz.prog Rows.cplxEvalsUptoRow.laid ((World.doorLaid Tryz.prog 400 os).forCall (fun _ _ => 0) ⟨#[], args, []⟩).memory :=
  laidMetH_of_parts3 (fuel := 8) (laidMet_of_run' 8 (by kernel_rfl) (by kernel_rfl)) (by kernel_rfl) (by kernel_rfl)

theorem globs_of {W : World} (h : laidMetH Tryz.prog Rows.cplxEvalsUptoRow.laid W) : Vx.GlobsOk Vx.G1 W fun q => q < W.heap.size := by
  rw [MakeChecks.laidMetH_plain _ _ _ (by kernel_rfl)] at h
  obtain ⟨ps, hL, _⟩ := h
  obtain ⟨h0, ⟨_, hL1⟩⟩ := Vx.glob_of (g := 5) (m := 64) (e := 5) (t := 274) (k := 9) (τ := (.int .u8)) (xs := Vx.k_deb) hL (by kernel_rfl) (by kernel_rfl) (by kernel_rfl) (by kernel_rfl) (by kernel_rfl) (by kernel_rfl)
  obtain ⟨h1, ⟨_, hL2⟩⟩ := Vx.glob_of (g := 1) (m := 4) (e := 97) (t := 123) (k := 9) (τ := Vx.rowsSh) (xs := Vx.k_rows) hL1 (by kernel_rfl) (by kernel_rfl) (by kernel_rfl) (by kernel_rfl) (by kernel_rfl) (by kernel_rfl)
  obtain ⟨h2, _⟩ := Vx.glob_of (g := 4) (m := 4) (e := 258) (t := 259) (k := 9) (τ := Vx.kindsSh) (xs := Vx.k_kinds) hL2 (by kernel_rfl) (by kernel_rfl) (by kernel_rfl) (by kernel_rfl) (by kernel_rfl) (by kernel_rfl)
  exact (Vx.globs_cons h1 (Vx.globs_cons h2 (Vx.globs_cons h0 Vx.globs_nil)))

theorem law (x : Vx.DenS Vx.I509) (h : Vx.wfS Vx.I509 x) (hlen : List.length x.2.2.1 ≤ 1048576) : Vx.T509 x = some (true, ()) := by
  obtain ⟨F, M, l, X, _⟩ := x
  obtain ⟨_, _, hL, ⟨hA, hB, _⟩, _⟩ := h
  obtain ⟨l', rfl, hl, hn⟩ := VL.words_list l (fun e he => by
    obtain ⟨h1, h2, _⟩ := hL.2 e he
    exact ⟨⟨h1.1, Int.lt_of_le_of_lt h1.2 (by decide)⟩, h2.1, Int.lt_of_le_of_lt h2.2 (by decide)⟩)
  obtain ⟨y, hy, rfl⟩ := VL.word_cx (x := X) ⟨⟨hA.1, Int.lt_of_le_of_lt hA.2 (by decide)⟩, hB.1, Int.lt_of_le_of_lt hB.2 (by decide)⟩
  exact VL.T509_true F M l' hy hl (by rw [hn]; exact hlen)

theorem bulk_pos {H : Type} (d : DataW H) : 1 ≤ Rows.uptoBulk d := by
  cases d with
  | lit l => cases l <;> simp [Rows.uptoBulk]
  | _ => simp [Rows.uptoBulk]

theorem bulk_all {H : Type} : ∀ l : List (DataW H), l.length ≤ Rows.uptoBulkAll l
  | [] => Nat.le_refl _
  | d :: r => by
    have h1 := bulk_pos d
    have h2 := bulk_all r
    simp only [List.length_cons, Rows.uptoBulkAll]
    omega

theorem bulk_elems {H : Type} (d : DataW H) : Vx.elemsOf d ≤ Rows.uptoBulk d := by
  cases d with
  | slice es r =>
    have := bulk_all es
    simp only [Vx.elemsOf, Rows.uptoBulk]
    omega
  | _ => exact Nat.zero_le _

theorem law_small {H : Type} {ds gs : List (DataW H)} (hk : Rows.uptoSmall H (ds ++ gs) = true) (x : Vx.DenS Vx.I509) (h : Vx.wfS Vx.I509 x) (hl : Vx.LenS Vx.I509 x ds) (hn : ds.length = Tryz.f6.params.toList.length) (hg : gs = []) : Vx.T509 x = some (true, ()) := by
  subst hg
  rw [show Tryz.f6.params.toList.length = 4 from by kernel_rfl] at hn
  match ds, hn with
  | [d1, d2, d3, d4], _ =>
    have h3 : List.length x.2.2.1 ≤ Vx.elemsOf d3 := hl.2.2.1
    have h4 := bulk_elems d3
    have h5 : Rows.uptoBulkAll ([d1, d2, d3, d4] ++ []) ≤ 1048576 := of_decide_eq_true hk
    have h6 : Rows.uptoBulk d3 ≤ Rows.uptoBulkAll ([d1, d2, d3, d4] ++ []) := by
      show Rows.uptoBulk d3 ≤ Rows.uptoBulk d1 + (Rows.uptoBulk d2 + (Rows.uptoBulk d3 + (Rows.uptoBulk d4 + 0)))
      omega
    exact law x h (by omega)

def witArgs : Array Value := #[.int .i64 0, .int .i64 0, .slice none 0 0, .agg #[.int .u64 0, .int .u64 0]]

theorem witness_row (os : Os) {H : Type} (enc : TypeId × Value → H) :
    OpenSpec.preRow enc Tryz.prog Tryz.f6 (Rows.OpenSpec.upto Rows.cplxEvalsSpec) [] false Rows.cplxEvalsUptoRow.laid ((World.doorLaid Tryz.prog 400 os).forCall (fun _ _ => 0) ⟨#[], witArgs, []⟩).memory witArgs := by
  have hw : (DataW.whole enc Tryz.prog ((World.doorLaid Tryz.prog 400 os).forCall (fun _ _ => 0) ⟨#[], witArgs, []⟩).memory Tryz.f6.params.toList Rows.cplxEvalsSpec.vars false witArgs.toList 8).map (fun x => Rows.uptoSmall H (x.1 ++ x.2.1)) = some true := by kernel_rfl
  obtain ⟨x, hx, hx1⟩ := Option.map_eq_some_iff.1 hw
  exact OpenSpec.preRow_of_cond 8 hx rfl (fun k hk => by cases hk; exact hx1) (by kernel_rfl) (door_met os _)

set_option maxRecDepth 100000 in
theorem lifted (os : Os) (started : os.Started) (H : Type) (enc : TypeId × Value → H) (F : Stop.Interp) :
    ReturnsInHanded {} Tryz.checked os 6 .any (OpenSpec.preRow enc Tryz.prog Tryz.f6 (Rows.OpenSpec.upto Rows.cplxEvalsSpec) [] false Rows.cplxEvalsUptoRow.laid)
      (((Rows.OpenSpec.upto Rows.cplxEvalsSpec).at F).post enc Tryz.prog Tryz.f6 false true false false) := by
  have hok : Input.okWideB Tryz.checked.prog ((World.doorLaid Tryz.prog 400 os).forCall (fun _ _ => 0) ⟨#[], witArgs, []⟩) 6 ⟨#[], witArgs, []⟩ = true := by kernel_rfl
  refine returnsInHanded_of_row (C := Tryz.checked) (s := Rows.OpenSpec.upto Rows.cplxEvalsSpec) (F := F) ownKey started (by kernel_rfl) Tryz.func6
    ⟨World.doorLaid Tryz.prog 400 os, fun _ _ => 0, ⟨#[], witArgs, []⟩, rfl, World.shaped_of_RefB (by kernel_rfl) (by kernel_rfl), (Input.okWide_of_okWideB (base := 0) hok).1, (Input.okWide_of_okWideB hok).2, witness_row os enc, by
      simp only [Assume.holds]
      exact ⟨by simp, by simp, fun _ => Modest.zero, by simp, by simp⟩⟩ ?_
  intro W base args ds gs before hval0 hW _ hk _ hL _ _
  exact Vx.law_postL (s := Rows.cplxEvalsSpec) (base := base) (n := 9) (tb := 4) Vx.S509_sound (law_small (hk _ rfl)) ⟨_, Tryz.func6, by kernel_rfl, by kernel_rfl⟩ laidOutKey (by kernel_rfl) (by kernel_rfl) (by kernel_rfl) Tryz.underlying4 rfl
    (fun ds h => by
      match ds, h with
      | [_, _, _, _], _ => rfl)
    hval0 hW (globs_of hL)

theorem rowInPlace : Tryz.pinned.checked.prog.inPlace 6 = Rows.cplxEvalsUptoRow.inPlace := by kernel_rfl
theorem rowUnfollowed : Tryz.pinned.checked.prog.unfollowed 6 = Rows.cplxEvalsUptoRow.unfollowed := by kernel_rfl
theorem rowRecurses : Tryz.pinned.checked.prog.recurses 6 = Rows.cplxEvalsUptoRow.recurses := by kernel_rfl
theorem rowNamed : Tryz.pinned.checked.prog.varsNamed 6 = Rows.cplxEvalsUptoRow.named := by kernel_rfl
theorem rowFacts : joinedFacts Tryz.pinned.checked.prog 6 Tryz.f6 (Rows.OpenSpec.upto Rows.cplxEvalsSpec).bare Rows.cplxEvalsUptoRow = true := by
  unfold joinedFacts
  rw [rowInPlace, rowUnfollowed, rowRecurses, rowNamed]
  kernel_rfl

theorem row_holds : Rows.CplxEvalsUptoSaid :=
  OpenClaim.holds_of_cond 6 Tryz.f6 rfl rfl rfl rfl rfl rfl rfl ⟨rfl, rfl, rfl, rfl, rfl⟩ rfl rfl rfl rfl rfl (by kernel_rfl) Tryz.func6 rowFacts
    (of_decide_eq_true (by kernel_rfl)) (by unfold Func.isWrapper; first | (rw [if_pos (by decide +kernel)]; kernel_rfl) | (rw [if_neg (by decide +kernel)]; exact ⟨rfl, rfl⟩))
    (fun os started H enc _ F0 => by rw [OpenClaim.pre_eq_preRow]; exact lifted os started H enc F0)

theorem cardWf : Rows.cplxEvalsUptoRow.wfByText (Rows.OpenSpec.upto Rows.cplxEvalsSpec) = true := by kernel_rfl
theorem cardMain : Tryz.pinned.checked.prog.mainIs = some ((true, "f4d57e94770c8e07f77ac795e7d614102c913b9c5527a5a691a146cf201b7e7b").1, (true, "f4d57e94770c8e07f77ac795e7d614102c913b9c5527a5a691a146cf201b7e7b").2.toList) := by kernel_rfl
theorem cardLooks : false = Tryz.pinned.checked.prog.looks [] := by kernel_rfl
theorem cardStand : (Tryz.f6.params.toList.all fun u => !Tryz.prog.wantsStandIn u) = true := by kernel_rfl
theorem cardNamed : Tryz.prog.funcNamed "vernier/vernierlaw24.CplxEvals" = some 6 := by kernel_rfl
theorem cardGoes : false = Rows.cplxEvalsUptoRow.goesBy Tryz.pinned.checked.prog := by kernel_rfl

theorem card_holds : Rows.CplxEvalsUptoCardSaid :=
  Claim7.holds_tied_plain_at .later [] [.data, .data, .data] true (true, "f4d57e94770c8e07f77ac795e7d614102c913b9c5527a5a691a146cf201b7e7b") false
    row_holds (fun _ h => by cases h) cardWf (fun _ h => by cases h) cplxEvalsUpto_row_tie rfl ⟨rfl, rfl⟩ cardMain rfl
    (fun f fn hf hfn => by
      obtain rfl : f = 6 := Option.some.inj (cardNamed.symm.trans hf) |>.symm
      obtain rfl : fn = Tryz.f6 := (Option.some.inj (Tryz.func6.symm.trans hfn)).symm
      exact ⟨cardLooks, fun j t ht => by
        have hm : t ∈ Tryz.f6.params.toList := by simpa using Array.mem_of_getElem? ht
        exact (show Tryz.prog.wantsStandIn t = false by simpa using List.all_eq_true.1 cardStand t hm)⟩)
    cardGoes
#print axioms card_holds

end Go.Proofs.YthajbkcpnbiobaaGreatDoor
