/- For every state of the package-level variables the Go function 'lexiconlaw05.ParseNumbers' returns true: the tied card, where the listed variables hold what the program's text lays. -/
import Derived.Test.YtbmbjaogcmokoaaGreatDoorRows
import Derived.Test.YtbmbjaogcmokoaaGreatDoorTie
import Derived.Test.YtbmbjaogcmokoaaGreatDoorCards
import Derived.Test.YtbmbjaogcmokoaaGreatDoorParts
import Derived.ProofKit
import Derived.Lay
import Derived.KernelRfl
namespace Go.Proofs.YtbmbjaogcmokoaaGreatDoor
open Go.ChangeShapes Go.WideShapes Go.ChangeAt Go.RowKit Go.Proofs.YtbmbjaogcmokoaaGreatDoorX
set_option maxRecDepth 100000 in
theorem numbers_law (w : World) : Calls Tryz.prog 3 #[] w fun e w' => e = .returned (.bool true) ∧ Below w.heap.size w w' :=
  law_trueO (G := 17) (hint := parseHint) (orc := orcL [worked]) (n := 1000) mixed worked_orc (by kernel_rfl) (by kernel_rfl) w
theorem parseOwn : ownKnob Tryz.prog.godebug = none := by kernel_rfl
set_option maxRecDepth 100000 in
theorem numbers_lifted (os : Os) (started : os.Started) (H : Type) (enc : TypeId × Value → H) :
    ReturnsInHanded {} Tryz.checked os 3 .any (fun w args => (Rows.parseNumbersSpec.pre enc Tryz.prog Tryz.f3 [] false w args ∧ laidMetH Tryz.prog Rows.parseNumbersRow.laid w) ∧ sizedMet enc Tryz.prog Tryz.f3 (OpenSpec.ofChange Rows.parseNumbersSpec) false w args)
      (Rows.parseNumbersSpec.post enc Tryz.prog Tryz.f3 false true false false) := by
  refine returnsInHanded_of_change_and (C := Tryz.checked) (X := fun w _ => laidMetH Tryz.prog Rows.parseNumbersRow.laid w) (fun _ _ _ hh h => h.of_heap hh) parseOwn started (by kernel_rfl) Tryz.func3
    (ChangeSpec.witness_shaped (enc := enc) (C := Tryz.checked) (os := os) (X := fun w _ => laidMetH Tryz.prog Rows.parseNumbersRow.laid w) false (World.laidAll Tryz.prog os Rows.parseNumbersRow.laid) #[] 8 (World.laidAll_os _ _ _)
      (World.shaped_of_ZipB (by kernel_rfl) (by kernel_rfl)) (by kernel_rfl) (by kernel_rfl) (by kernel_rfl)
      (by rw [MakeChecks.laidMetH_plain _ _ _ (by kernel_rfl)]; exact laidMet_laidAll _ (by kernel_rfl) (by kernel_rfl))) ?_
  intro W base args ds gs before hval0 hW _ _ hL _
  have hW' := hW
  obtain ⟨p, q, hA0, hV, rfl, _, _⟩ := hW
  have hA : DataW.TrodAll enc Tryz.prog W 0 (fun _ => true) true Tryz.f3.params.toList args.toList ds p := hA0
  rw [Tryz.params3] at hA
  obtain ⟨rfl, rfl, rfl⟩ := trodAll_none hA
  obtain ⟨rfl, rfl⟩ := trodVars_none hV
  simp only [List.append_nil] at hW'
  refine (numbers_law W).mono fun e W' ⟨he, hb⟩ => ?_
  subst he
  exact ⟨_, rfl, _, _, _, [], [], [], hW', trodAll_mk1 (shut_bool Tryz.underlying4 _), trodAll_mk0, rfl, hb.frame _, fun h => by cases h⟩
theorem numbers_holds : Rows.ParseNumbersSaid :=
  OpenClaim.holds_of_wide 3 Tryz.f3 rfl rfl rfl rfl rfl rfl rfl ⟨rfl, rfl, rfl, rfl, rfl⟩ rfl rfl rfl rfl rfl (by kernel_rfl) Tryz.func3 (by kernel_rfl)
    (of_decide_eq_true (by kernel_rfl)) (by unfold Func.isWrapper; first | (rw [if_pos (by decide +kernel)]; kernel_rfl) | (rw [if_neg (by decide +kernel)]; exact ⟨rfl, rfl⟩))
    (fun os started H enc _ => numbers_lifted os started H enc)
theorem numbers_card : Rows.ParseNumbersCardSaid :=
  Claim7.holds_tied_plain_at .later [] [.data, .data, .widerDeep, .widerDeep, .data, .data, .data, .data, .data, .data, .sentinel, .sentinel, .pinned, .pinned, .pinned] true (true, "f0dbf6913ab1a4d33d6c8e951ccfe177cf8dd19404e4c0b2e480b98404b1f2f8") true numbers_holds (fun _ h => by cases h) (by kernel_rfl) (fun _ h => by cases h) parseNumbers_row_tie rfl ⟨rfl, rfl⟩ (by kernel_rfl) rfl
    (fun f fn hf hfn => by
      obtain rfl : f = 3 := Option.some.inj ((show Tryz.prog.funcNamed "lexicon/lexiconlaw05.ParseNumbers" = some 3 by kernel_rfl).symm.trans hf) |>.symm
      obtain rfl : fn = Tryz.f3 := (Option.some.inj (Tryz.func3.symm.trans hfn)).symm
      exact ⟨by kernel_rfl, fun j t ht => by
        rw [Tryz.params3] at ht
        simp at ht⟩)
    (by kernel_rfl)
end Go.Proofs.YtbmbjaogcmokoaaGreatDoor
