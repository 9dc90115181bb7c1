/- For every state of the package-level variables the Go function 'lexiconlaw04.LexNames' returns true: the tied card, where the listed variables hold what the program's text lays. -/
import Derived.Test.YtonlahgagjejeaaGreatDoorRows
import Derived.Test.YtonlahgagjejeaaGreatDoorTie
import Derived.Test.YtonlahgagjejeaaGreatDoorCards
import Derived.Test.YtonlahgagjejeaaGreatDoorXTop
import Derived.ProofKit
import Derived.Lay
import Derived.KernelRfl
namespace Go.Proofs.YtonlahgagjejeaaGreatDoor
open Go.ChangeShapes Go.WideShapes Go.ChangeAt Go.RowKit Go.Proofs.YtonlahgagjejeaaGreatDoorX
def lexHints : List (List Nat) := [[], [], [], [0], [14, 9, 6, 8, 26, 16, 22, 13, 21, 15, 2, 7, 0, 165, 153, 149, 23, 132, 18, 17, 96, 57, 50, 45, 10, 1, 29], [4, 0, 13, 7, 11, 12, 19, 18, 6, 5, 145, 133, 21, 127, 128, 126, 121, 15, 14, 102, 45, 40, 8, 1, 24], [13, 6, 14, 9, 16, 2, 0, 15, 7, 8, 20, 125, 19, 117, 18, 78, 17, 70, 62, 53, 10, 1, 30], [0, 1, 25, 2, 3, 4], [4, 5, 6, 7, 8, 10, 11, 40, 21, 9, 0, 1], [4, 6, 16, 1, 5, 11, 0], [4, 2, 3, 0, 1], [4, 0, 1], [2, 3, 0, 10, 4], [2, 3, 0], [0, 4, 1, 6], [4, 0, 33, 6, 5, 1, 17, 11], [2, 3, 0], [2, 3, 4, 0, 9], [5, 6, 7, 15, 4, 61, 53, 41, 33, 25, 16, 0, 1], [0, 2, 3, 4, 5, 6, 71, 49, 21, 11], [0, 2, 3, 5, 4, 21, 10], [0, 6, 3, 1], [0, 4, 5, 1, 7, 52, 6, 31, 21], [2, 4, 0, 3, 6, 17, 18, 16, 10], [2, 0], [7, 0, 4, 5, 10, 1, 13, 14, 6, 15, 178, 16, 168, 160, 11, 133, 12, 126, 96, 9, 59, 8], [2, 0], [4, 5, 0, 1], [7, 6, 4, 5, 9, 34, 1, 8, 71, 10, 51, 48, 35, 29, 0], [4, 5, 0, 1, 29], [4, 5, 1], [4, 5], [0, 3, 2, 5, 6, 4, 84, 70, 64, 41, 28, 16], [4, 1, 0], [0, 1, 5, 22, 23, 21], [2, 3, 0, 23, 6, 14, 4, 9, 10, 8], [6, 7, 1, 2, 9, 0], [2, 0], [7, 6, 28, 1, 0, 2], [4, 0, 1, 5, 34, 6, 21, 12], [0, 2, 25, 3], [6, 7, 8, 0, 1, 2, 9, 18], [6, 0, 4, 7, 5, 8, 9, 10, 11, 1, 35, 16], [4, 5, 6, 0, 1, 7, 15], [], [2, 0], [6, 0, 2, 3, 4, 5, 28, 8, 7, 56, 9, 45, 42, 35, 25, 21], [4, 0, 1], [4, 0, 1], [4, 0, 1], [2, 3, 0, 10], [0, 4, 13, 1], [0, 4, 16, 1], [2, 3, 4, 5, 0, 16, 9], [0, 4, 12, 1, 7], [0, 4, 15, 1, 7], [0, 4, 6, 18, 1, 5, 9], [0, 5, 4, 6, 26, 1, 17, 9], [4, 0, 1], [1, 0, 6, 7, 13, 15, 16, 10, 2, 101, 11, 12, 17, 85, 169, 9, 159, 141, 137, 121, 112, 106, 8, 99, 102, 100, 92, 90, 83, 77, 64, 52, 40, 37, 32, 25, 19], [10, 0, 1, 11, 4, 3, 34, 2, 26, 19, 12], [4, 1, 0, 8, 5, 9, 53, 10, 46, 47, 45, 42, 6, 36, 32, 7, 26, 20, 15, 12], [4, 5, 6, 0, 1], [4, 5, 0, 6, 8, 19, 7, 1], [2, 0], [2, 3, 4, 0, 7, 98, 79, 9, 14, 13, 8, 15, 125, 16, 104, 10, 11, 12, 59, 30, 5, 26, 6, 19], [4, 5, 1, 0], [4, 0, 1], [4, 0, 1], [4, 0, 1], [8, 4, 0, 1, 5, 10, 9, 13, 12, 11, 6, 139, 132, 114, 107, 93, 7, 73, 64, 59, 36, 31, 24, 16], [2, 3, 0, 5, 10, 6, 11, 8, 12, 4, 98, 77, 75, 59, 57, 9, 45, 7, 23, 16], [4, 0, 1], [4, 0, 1], [5, 2, 3, 4, 0, 48, 35, 33, 27, 6, 18, 10], [2, 0], [3, 0, 4, 2, 5, 91, 89, 87, 83, 54, 46, 18], [4, 0, 1], [4, 0, 1], [6, 0, 1, 2], [6, 0, 1, 2], [9, 4, 8, 0, 7, 1, 16, 12, 13, 10, 11, 156, 143, 139, 14, 15, 124, 108, 98, 64, 51, 43, 33, 26, 183, 5, 181, 6, 176, 177, 175, 171, 160], [2, 0], [4, 5, 6, 0, 7, 1, 12], [4, 5, 6, 0, 7, 8, 9, 11, 1], [6, 7, 8, 1, 13, 0, 2], [10, 6, 7, 8, 9, 0, 1, 26, 2], [2, 0, 10, 3], [0, 19, 6], [], [], [2, 0], [10, 7, 8, 0, 4, 1, 9, 5, 77, 6, 44, 39, 20], [2, 0], [2, 0, 3, 6], [2, 0], [2, 0], [3, 2, 4, 9, 8, 16, 0, 19, 11, 10, 23, 20, 141, 25, 24, 131, 123, 21, 109, 17, 98, 18, 90, 84, 77, 71, 66, 14, 15, 50, 12, 47, 13, 5, 6, 32, 7], [3, 2, 4, 9, 8, 16, 0, 19, 11, 10, 23, 20, 138, 25, 24, 129, 121, 21, 107, 17, 96, 18, 88, 82, 75, 69, 64, 14, 15, 49, 12, 46, 13, 5, 6, 32, 7], [0, 2, 20, 9, 3], [], [8, 0, 5, 2, 3, 4, 6, 7, 30, 25, 12], [2, 0], [0, 12, 2, 3, 4, 7, 19, 16, 13, 5, 6, 48, 40, 34, 24, 10], [7, 0, 18, 2, 17, 16, 10, 15, 5, 9, 20, 13, 14, 11, 3, 4, 6, 8, 19, 170, 12, 27, 252, 241, 239, 224, 222, 216, 194, 175, 171, 167, 161, 145, 142, 140, 127, 109, 108, 96, 89, 76, 74, 70, 66, 60, 54, 32, 28, 24], [2, 1, 3, 18, 12, 13, 17, 14, 16, 183, 169, 4, 131, 124, 113, 103, 84, 15, 69, 58, 5, 53], [2, 3, 0], [], [6, 1, 7, 0, 48, 41, 28, 20, 16, 13, 2, 10], [6, 7, 12, 10, 8, 11, 2, 13, 0, 1, 9, 32], [5, 1, 0, 9, 6, 4, 8, 147, 7, 22, 223, 201, 199, 193, 171, 152, 148, 144, 138, 120, 118, 113, 91, 79, 58, 50, 45, 40, 37, 27, 23, 19], [0, 6, 1, 7, 9, 8, 5, 11, 4, 10, 228, 180, 172, 155, 138, 111, 88, 80, 46, 39, 30, 25, 16], [2, 3, 0], [], [6, 1, 7, 0, 50, 43, 30, 22, 18, 15, 2, 12], [6, 7, 12, 10, 8, 11, 2, 13, 0, 1, 9, 32], [2, 0], [0, 4, 5, 7, 6, 1, 9, 34, 23, 17, 11], [6, 4, 7, 5, 1, 0, 33, 26, 15], [3, 2, 5, 0], [0], [0, 2, 14, 8, 4], [2, 0], [0, 2, 1, 3], [5, 4, 7, 1, 6, 8, 0, 30], [2, 3, 0], [2, 0], [4, 5, 0, 1, 12, 8], [2, 0], [1, 0, 27, 23, 14, 10, 4], [3, 0, 4, 2, 52, 42, 23, 9], [4, 5, 0, 1, 12, 8], [2, 0, 4], [2, 0, 3], [4, 0, 12, 1, 161, 16, 139, 14, 15, 13, 99, 10, 11, 8, 9, 6, 7, 5, 20], [13, 1, 12, 2, 17, 10, 11, 3, 18, 0, 94, 4, 89, 68, 14, 16, 46, 15, 34, 30, 28], [0, 1, 4, 5, 7, 9, 12, 6, 11, 8, 13, 10], [0, 7, 6, 4, 5, 1, 10, 11, 8, 9, 123, 106, 96, 86, 80, 70, 46, 30], [6, 0, 4, 5, 1, 11, 8, 118, 106, 98, 9, 10, 66, 7, 32, 25, 23, 15], [4, 0, 1, 34, 30, 14], [2, 0], [2, 0], [2, 0], [5, 4, 0, 1, 23, 15, 9], [0, 31, 19], [2, 0, 4], [2, 0, 4], [], [], [], [], [], [], [], [], [], [], [], [], [], [], [], [], [], [], [], [], [], [], [], [], [], [], [], [], [], [], [], [], [], [], [], [], [], [], [], [], [], [], [], []]
def lexHint (f : Nat) : List Nat := lexHints.getD f []
set_option maxRecDepth 100000 in
theorem names_law (w : World) : Calls Tryz.prog 3 #[] w fun e w' => e = .returned (.bool true) ∧ Below w.heap.size w w' :=
  law_true (G := 17) (hint := lexHint) (n := 1000) (by kernel_rfl) (by kernel_rfl) (by kernel_rfl) w
theorem lexOwn : ownKnob Tryz.prog.godebug = none := by kernel_rfl
set_option maxRecDepth 100000 in
theorem names_lifted (os : Os) (started : os.Started) (H : Type) (enc : TypeId × Value → H) :
    ReturnsInHanded {} Tryz.checked os 3 .any (fun w args => (Rows.lexNamesSpec.pre enc Tryz.prog Tryz.f3 [] false w args ∧ laidMetH Tryz.prog Rows.lexNamesRow.laid w) ∧ sizedMet enc Tryz.prog Tryz.f3 (OpenSpec.ofChange Rows.lexNamesSpec) false w args)
      (Rows.lexNamesSpec.post enc Tryz.prog Tryz.f3 false true false false) := by
  refine returnsInHanded_of_change_and (C := Tryz.checked) (X := fun w _ => laidMetH Tryz.prog Rows.lexNamesRow.laid w) (fun _ _ _ hh h => h.of_heap hh) lexOwn started (by kernel_rfl) Tryz.func3
    (ChangeSpec.witness_shaped (enc := enc) (C := Tryz.checked) (os := os) (X := fun w _ => laidMetH Tryz.prog Rows.lexNamesRow.laid w) false (World.laidAll Tryz.prog os Rows.lexNamesRow.laid) #[] 8 (World.laidAll_os _ _ _)
      (World.shaped_of_ZipB (by kernel_rfl) (by kernel_rfl)) (by kernel_rfl) (by kernel_rfl) (by kernel_rfl)
      (by rw [MakeChecks.laidMetH_plain _ _ _ (by kernel_rfl)]; exact laidMet_laidAll _ (by kernel_rfl) (by kernel_rfl))) ?_
  intro W base args ds gs before hval0 hW _ _ hL _
  have hW' := hW
  obtain ⟨p, q, hA0, hV, rfl, _, _⟩ := hW
  have hA : DataW.TrodAll enc Tryz.prog W 0 (fun _ => true) true Tryz.f3.params.toList args.toList ds p := hA0
  rw [Tryz.params3] at hA
  obtain ⟨rfl, rfl, rfl⟩ := trodAll_none hA
  obtain ⟨rfl, rfl⟩ := trodVars_none hV
  simp only [List.append_nil] at hW'
  refine (names_law W).mono fun e W' ⟨he, hb⟩ => ?_
  subst he
  exact ⟨_, rfl, _, _, _, [], [], [], hW', trodAll_mk1 (shut_bool Tryz.underlying4 _), trodAll_mk0, rfl, hb.frame _, fun h => by cases h⟩
theorem names_holds : Rows.LexNamesSaid :=
  OpenClaim.holds_of_wide 3 Tryz.f3 rfl rfl rfl rfl rfl rfl rfl ⟨rfl, rfl, rfl, rfl, rfl⟩ rfl rfl rfl rfl rfl (by kernel_rfl) Tryz.func3 (by kernel_rfl)
    (of_decide_eq_true (by kernel_rfl)) (by unfold Func.isWrapper; first | (rw [if_pos (by decide +kernel)]; kernel_rfl) | (rw [if_neg (by decide +kernel)]; exact ⟨rfl, rfl⟩))
    (fun os started H enc _ => names_lifted os started H enc)
theorem names_card : Rows.LexNamesCardSaid :=
  Claim7.holds_tied_plain_at .later [] [.data, .data, .widerDeep, .widerDeep, .data, .data, .data, .data, .data, .data, .sentinel, .sentinel, .pinned, .pinned, .pinned] true (true, "724eca637b2a049ff1d72c724e8565d09e158659d61f0d64044897ae63d441f8") true names_holds (fun _ h => by cases h) (by kernel_rfl) (fun _ h => by cases h) lexNames_row_tie rfl ⟨rfl, rfl⟩ (by kernel_rfl) rfl
    (fun f fn hf hfn => by
      obtain rfl : f = 3 := Option.some.inj ((show Tryz.prog.funcNamed "lexicon/lexiconlaw04.LexNames" = some 3 by kernel_rfl).symm.trans hf) |>.symm
      obtain rfl : fn = Tryz.f3 := (Option.some.inj (Tryz.func3.symm.trans hfn)).symm
      exact ⟨by kernel_rfl, fun j t ht => by
        rw [Tryz.params3] at ht
        simp at ht⟩)
    (by kernel_rfl)
end Go.Proofs.YtonlahgagjejeaaGreatDoor
