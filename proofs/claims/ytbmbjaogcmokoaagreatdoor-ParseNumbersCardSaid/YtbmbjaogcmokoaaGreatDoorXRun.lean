/- Code, whole: what the executor says, the model does. -/
import Derived.Test.YtbmbjaogcmokoaaGreatDoorXScan2
namespace Go.Proofs.YtbmbjaogcmokoaaGreatDoorX
open Go Go.RowKit
set_option linter.unusedVariables false

section
variable {sy : Sy} {G : Nat} {B : Kp} {w0 : World} {P : Program} {ρ ρ' : Ren} {cx : Cx} {env env' : List CV} {loc : Loc} {a : Act} {st st' : St} {w w' : World} {o : Oper} {call : Caller} {ex : Ex}

theorem den_ok (hall : ∀ B w0, CallerSound sy G B w0 P call) (hdraw : ∀ (id : Nat) (ops : Array Oper), Den sy G B w0 P cx (.region id ops true) ((den P cx (.region id ops true)).f call)) :
    ∀ c, Den sy G B w0 P cx c ((den P cx c).f call) := by
  intro c
  induction c with
  | skip =>
    intro env st e env2 st2 ρ a w hr hs hd hw
    have hr' : R.ok .normal env st = .ok e env2 st2 := hr
    cases hr'
    exact wp_skip ⟨ρ, Ren.le_refl _, rfl, hs, hd, hw⟩
  | label l =>
    intro env st e env2 st2 ρ a w hr hs hd hw
    have hr' : R.ok .normal env st = .ok e env2 st2 := hr
    cases hr'
    exact wp_label ⟨ρ, Ren.le_refl _, rfl, hs, hd, hw⟩
  | region id ops draw =>
    cases draw with
    | true => exact hdraw id ops
    | false =>
      intro env st e env2 st2 ρ a w hr hs hd hw
      exact wp_region_list (ops_ok (hall B w0) ops.toList env .nil st e env2 st2 ρ a w hr hs hd hw fun _ _ _ h => h)
  | seq x y ihx ihy =>
    intro env st e env2 st2 ρ a w hr hs hd hw
    have hr' : (match (den P cx x).f call env st with
      | .ok e env st => match e with
        | .normal => (den P cx y).f call env st
        | e => .ok e env st
      | .err n => .err n : R) = .ok e env2 st2 := hr
    cases hf : (den P cx x).f call env st with
    | err k => rw [hf] at hr'; cases hr'
    | ok e1 env1 st1 =>
      rw [hf] at hr'
      refine wp_seq (Code.wp_mono (fun e' a' w' hp => ?_) (ihx env st e1 env1 st1 ρ a w hf hs hd hw))
      obtain ⟨ρ1, hle, hex, hs1, hd1, hw1⟩ := hp
      cases e1 with
      | normal =>
        simp only [ExRel] at hex
        subst hex
        exact Code.wp_mono (fun _ _ _ h => h.mono hle) (ihy env1 st1 e env2 st2 ρ1 a' w' hr' hs1 hd1 hw1)
      | exit id => simp only at hr'; cases hr'; simp only [ExRel] at hex; subst hex; exact ⟨ρ1, hle, rfl, hs1, hd1, hw1⟩
      | ret => simp only at hr'; cases hr'; simp only [ExRel] at hex; subst hex; exact ⟨ρ1, hle, rfl, hs1, hd1, hw1⟩
      | panic v => simp only at hr'; cases hr'; obtain ⟨v', rfl, hv⟩ := hex; exact ⟨ρ1, hle, ⟨v', rfl, hv⟩, hs1, hd1, hw1⟩
  | cond x y z ihy ihz =>
    intro env st e env2 st2 ρ a w hr hs hd hw
    have hr' : (match (ev cx x).f env .nil with
      | .bool t => match t with
        | true => (den P cx y).f call env st
        | false => (den P cx z).f call env st
      | _ => .err 117 : R) = .ok e env2 st2 := hr
    cases hv : (ev cx x).f env .nil <;> rw [hv] at hr' <;> try (cases hr'; done)
    rename_i t
    have he := eval_cond hs hw hv
    cases t with
    | true => exact wp_cond_true he (ihy env st e env2 st2 ρ a w hr' hs hd hw)
    | false => exact wp_cond_false he (ihz env st e env2 st2 ρ a w hr' hs hd hw)
  | block id x ih =>
    intro env st e env2 st2 ρ a w hr hs hd hw
    have hr' : (match (den P cx x).f call env st with
      | .ok e env st => match e with
        | .exit j => bif Nat.beq j id then .ok .normal env st else .ok (.exit j) env st
        | e => .ok e env st
      | .err n => .err n : R) = .ok e env2 st2 := hr
    cases hf : (den P cx x).f call env st with
    | err k => rw [hf] at hr'; cases hr'
    | ok e1 env1 st1 =>
      rw [hf] at hr'
      refine wp_block (Code.wp_mono (fun e' a' w' hp => ?_) (ih env st e1 env1 st1 ρ a w hf hs hd hw))
      obtain ⟨ρ1, hle, hex, hs1, hd1, hw1⟩ := hp
      cases e1 with
      | normal => simp only at hr'; cases hr'; simp only [ExRel] at hex; subst hex; exact ⟨ρ1, hle, rfl, hs1, hd1, hw1⟩
      | exit j =>
        simp only [ExRel] at hex
        subst hex
        simp only at hr'
        cases hj : Nat.beq j id with
        | true =>
          rw [hj] at hr'
          simp only [cond_true] at hr'
          cases hr'
          have : j = id := Nat.eq_of_beq_eq_true hj
          simp only [Exit.inBlock, this, if_true]
          exact ⟨ρ1, hle, rfl, hs1, hd1, hw1⟩
        | false =>
          rw [hj] at hr'
          simp only [cond_false] at hr'
          cases hr'
          have : j ≠ id := fun h => by subst h; rw [Nat.beq_refl] at hj; cases hj
          simp only [Exit.inBlock, if_neg this]
          exact ⟨ρ1, hle, rfl, hs1, hd1, hw1⟩
      | ret => simp only at hr'; cases hr'; simp only [ExRel] at hex; subst hex; exact ⟨ρ1, hle, rfl, hs1, hd1, hw1⟩
      | panic v => simp only at hr'; cases hr'; obtain ⟨v', rfl, hv⟩ := hex; exact ⟨ρ1, hle, ⟨v', rfl, hv⟩, hs1, hd1, hw1⟩
  | loop x ih =>
    intro env st e env2 st2 ρ a w hr hs hd hw
    refine wp_of_loopIn ?_
    unfold den at hr
    cases hsc : scanOf P x with
    | none =>
      rw [hsc] at hr
      exact loop_ok ih 10000000 env st e env2 st2 ρ a w hr hs hd hw
    | some s =>
      rw [hsc] at hr
      simp only at hr
      cases hat : scanAt x s cx env st with
      | none =>
        rw [hat] at hr
        exact loop_ok ih 10000000 env st e env2 st2 ρ a w hr hs hd hw
      | some q =>
        obtain ⟨b, es, since, last⟩ := q
        rw [hat] at hr
        exact scanF_ok hall hsc hat hr hs hd hw
  | rangeFunc f ps x y _ _ =>
    intro env st e env2 st2 ρ a w hr hs hd hw
    refine Code.wp_mono (fun e' a' w' hp => ?_) (rangeFunc_ok hall hr hs hd hw)
    obtain ⟨ρ1, hle, rfl, rfl, hs1, hd1, hw1⟩ := hp
    exact ⟨ρ1, hle, rfl, hs1, hd1, hw1⟩
  | exit id =>
    intro env st e env2 st2 ρ a w hr hs hd hw
    have hr' : R.ok (.exit id) env st = .ok e env2 st2 := hr
    cases hr'
    exact wp_exit ⟨ρ, Ren.le_refl _, rfl, hs, hd, hw⟩
  | scope x ih =>
    intro env st e env2 st2 ρ a w hr hs hd hw
    refine wp_scope_straight (Code.wp_mono (fun e' a' w' hp => ?_) (ih env st e env2 st2 ρ a w hr hs hd hw))
    have hp' := hp
    obtain ⟨ρ1, hle, hex, _⟩ := hp
    cases e <;> simp only [ExRel] at hex
    case panic => obtain ⟨_, rfl, _⟩ := hex; exact hp'
    all_goals subst hex; exact hp'
  | goto l =>
    intro env st e env2 st2 ρ a w hr
    have hr' : R.err 118 = .ok e env2 st2 := hr
    cases hr'
  | ret =>
    intro env st e env2 st2 ρ a w hr hs hd hw
    have hr' : R.ok .ret env st = .ok e env2 st2 := hr
    cases hr'
    exact wp_ret ⟨ρ, Ren.le_refl _, rfl, hs, hd, hw⟩
  | refuse s =>
    intro env st e env2 st2 ρ a w hr
    have hr' : R.err 118 = .ok e env2 st2 := hr
    cases hr'
end
end Go.Proofs.YtbmbjaogcmokoaaGreatDoorX
