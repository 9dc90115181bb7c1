/- A closed law whose run says true returns true. -/
import Derived.Test.YtonlahgagjejeaaGreatDoorXDraw4
namespace Go.Proofs.YtonlahgagjejeaaGreatDoorX
open Go Go.RowKit
set_option linter.unusedVariables false

noncomputable def saysTrue (x : RV) : Bool :=
  match x with
  | .ok (.bool true) _ => true
  | _ => false

def ren0 (G : Nat) : Ren := fun g => if g < G then some ⟨g, 0, 0, 0⟩ else none

theorem wrel0 (sy : Nat → ByteArray) (G : Nat) (w : World) : WRel sy G w.heap.size w (ren0 G) ⟨.nil, G, []⟩ w where
  below := ⟨rfl, rfl, rfl, Nat.le_refl _, fun _ _ => rfl⟩
  base := Nat.le_refl _
  glob := fun g hg => ⟨⟨g, 0, 0, 0⟩, by simp [ren0, hg], rfl, rfl⟩
  dom := fun b i h => by
    unfold ren0 at h
    split at h
    · assumption
    · cases h
  obj := fun b o h => by cases h
  inj := fun b1 b2 o1 o2 i1 i2 h => by cases h

/-- The run's answer at the start says 'true': so does every run of the model's. -/
theorem law_true {P : Program} {G : Nat} {hint : Nat → List Nat} {n f : Nat} (hm : P.follows .mixedOrders = true) (he : enters P f = true) (h : saysTrue (run P G hint n f [] ⟨.nil, G, []⟩) = true) (w : World) :
    Calls P f #[] w fun e w' => e = .returned (.bool true) ∧ Below w.heap.size w w' := by
  have hr := run_ok (sy := fun _ => default) (G := G) (B := w.heap.size) (w0 := w) (draw_ok hm) hint n f [] ⟨.nil, G, []⟩ (ren0 G) w [] (by simp [VRels]) (wrel0 _ G w) he
  generalize run P G hint n f [] ⟨.nil, G, []⟩ = x at h hr
  cases x with
  | err k => cases h
  | pan v s => cases h
  | ok v s =>
    have hv : v = .bool true := by
      cases v <;> first | (rename_i b; cases b <;> first | rfl | cases h) | cases h
    subst hv
    refine hr.2.mono fun e w' ⟨ρ', v', he, _, hv', hw⟩ => ?_
    simp only [VRel] at hv'
    subst hv'
    exact ⟨he, hw.below⟩
end Go.Proofs.YtonlahgagjejeaaGreatDoorX
