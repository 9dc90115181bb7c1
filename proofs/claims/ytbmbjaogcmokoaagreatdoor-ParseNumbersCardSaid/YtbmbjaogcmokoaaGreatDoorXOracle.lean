/- Runs where some functions' answers are known. -/
import Derived.Test.YtbmbjaogcmokoaaGreatDoorXFun
namespace Go.Proofs.YtbmbjaogcmokoaaGreatDoorX
open Go Go.RowKit
set_option linter.unusedVariables false

section
variable {sy : Sy} {G : Nat} {B : Kp} {w0 : World} {P : Program} {ρ : Ren} {st : St} {w w' : World} {call : Caller}

/-- the known answers are the functions' own: they change no memory that was there -/
def OrcOk (P : Program) (orc : Orc) : Prop := ∀ f g, orc f = some g → ∀ args v, g.f args = some v → ∀ (sy : Sy) (ρ : Ren) (args' : List Value) (w : World), VRels sy ρ args args' →
  Calls P f args'.toArray w fun e w' => ∃ v', e = .returned v' ∧ VRel sy ρ v v' ∧ Below w.heap.size w w'

theorem runO_ok (hdraw : ∀ B w0, DrawOk sy G B w0 P) (hint : Nat → List Nat) {orc : Orc} (ho : OrcOk P orc) : ∀ n B w0, CallerSound sy G B w0 P (runO P G hint orc n)
  | 0 => fun B w0 f args st ρ w args' _ _ _ => trivial
  | n + 1 => fun B w0 f args st ρ w args' hargs hw hen => by
    have e : runO P G hint orc (n + 1) f args st = (match orc f with
      | some g => match g.f args with
        | some v => .ok v st
        | none => (funF P G hint f).f (runO P G hint orc n) args st
      | none => (funF P G hint f).f (runO P G hint orc n) args st) := rfl
    rw [e]
    cases hf : orc f with
    | none => exact fun_ok (hdraw B w0) (runO_ok hdraw hint ho n) hint f args st ρ w args' hargs hw hen
    | some g =>
      simp only
      cases hv : g.f args with
      | none => exact fun_ok (hdraw B w0) (runO_ok hdraw hint ho n) hint f args st ρ w args' hargs hw hen
      | some v =>
        refine ⟨rfl, (ho f g hf args v hv sy ρ args' w hargs).mono fun e w' ⟨v', he, hr, hb⟩ => ⟨ρ, v', he, Ren.le_refl _, hr, hw.grown hb⟩⟩
end
end Go.Proofs.YtbmbjaogcmokoaaGreatDoorX
