/- Regions and code, functions: what the executor says, the model does. -/
import Derived.Test.YtbmbjaogcmokoaaGreatDoorXKeep
namespace Go.Proofs.YtbmbjaogcmokoaaGreatDoorX
open Go Go.RowKit
set_option linter.unusedVariables false

section
variable {sy : Sy} {G : Nat} {B : Kp} {w0 : World} {P : Program} {ρ ρ' : Ren} {cx : Cx} {env env' : List CV} {loc : Loc} {a : Act} {st st' : St} {w w' : World} {o : Oper} {call : Caller} {ex : Ex}

/-- may the operation run? -/
theorem guard_rel {ops : Array Oper} {g : Option (Nat × Bool)} {K : Bool → R} {e : Ex} {env2 : List CV} {st2 : St} (hs : SR sy G cx ρ env loc a) (ho : o.guard = g)
    (hr : (guardF cx ops.toList g).f env loc K = .ok e env2 st2) : ∃ b, Region.wanted o (yielded ops a.tmps) = b ∧ K b = .ok e env2 st2 := by
  unfold guardF at hr
  cases g with
  | none => exact ⟨true, by simp [Region.wanted, ho], hr⟩
  | some jw =>
    obtain ⟨j, wnt⟩ := jw
    simp only at hr
    have hwant : Region.wanted o (yielded ops a.tmps) = (yielded ops a.tmps j == some wnt) := by simp [Region.wanted, ho]
    rw [hwant]
    cases hj : ops.toList[j]? with
    | none =>
      rw [hj] at hr
      have hj' : ops[j]? = none := by simpa using hj
      exact ⟨false, by simp [yielded, hj'], hr⟩
    | some oj =>
      rw [hj] at hr
      have hj' : ops[j]? = some oj := by simpa using hj
      simp only at hr
      cases hd : oj.dst with
      | none => rw [hd] at hr; exact ⟨false, by simp [yielded, hj', hd], hr⟩
      | some d =>
        rw [hd] at hr
        simp only [evTmpAt_eq] at hr
        have hsl := hs.slot d
        generalize look cx env loc d = v at hsl hr
        have hnb : (∀ b, a.tmps.getD d undef ≠ .bool b) → yielded ops a.tmps j = none := fun h => by
          cases hx : a.tmps[d]? with
          | none => simp only [yielded, hj', hd, Option.bind_some, hx]
          | some x =>
            simp only [yielded, hj', hd, Option.bind_some, hx]
            have hgd : a.tmps.getD d undef = x := by simp [hx]
            cases x <;> try rfl
            rename_i b
            exact absurd hgd (h b)
        have done : (∀ b, a.tmps.getD d undef ≠ .bool b) → K false = .ok e env2 st2 → ∃ b, (yielded ops a.tmps j == some wnt) = b ∧ K b = .ok e env2 st2 := fun h1 h2 => ⟨false, by rw [hnb h1]; rfl, h2⟩
        cases v <;> simp only at hr
        case unk => cases hr
        case bool b =>
          simp only [VRel] at hsl
          refine ⟨b == wnt, ?_, hr⟩
          have hb : a.tmps[d]? = some (.bool b) := by
            cases hx : a.tmps[d]? with
            | none => simp [hx, undef] at hsl
            | some x => simp [hx] at hsl; rw [hsl]
          simp only [yielded, hj', hd, Option.bind_some, hb]
          simp
        case ptr => simp only [VRel] at hsl; obtain ⟨i, _, h⟩ := hsl; exact done (by rw [h]; simp) hr
        case slice => simp only [VRel] at hsl; obtain ⟨i, _, h⟩ := hsl; exact done (by rw [h]; simp) hr
        case map => simp only [VRel] at hsl; obtain ⟨i, _, h⟩ := hsl; exact done (by rw [h]; simp) hr
        case func => simp only [VRel] at hsl; obtain ⟨_, _, h, _⟩ := hsl; exact done (by rw [h]; simp) hr
        case iface => simp only [VRel] at hsl; obtain ⟨_, h, _⟩ := hsl; exact done (by rw [h]; simp) hr
        case agg => simp only [VRel] at hsl; obtain ⟨_, h, _⟩ := hsl; exact done (by rw [h]; simp) hr
        case tup => simp only [VRel] at hsl; obtain ⟨_, h, _⟩ := hsl; exact done (by rw [h]; simp) hr
        case sym => simp only [VRel] at hsl; obtain ⟨h, _⟩ := hsl; exact done (by rw [h]; simp) hr
        case slen => simp only [VRel] at hsl; obtain ⟨_, h, _⟩ := hsl; exact done (by rw [h]; simp) hr
        case smod => simp only [VRel] at hsl; obtain ⟨_, h, _⟩ := hsl; exact done (by rw [h]; simp) hr
        all_goals (simp only [VRel] at hsl; exact done (by rw [hsl]; simp) hr)

theorem SR.dfs (h : SR sy G cx ρ env loc a) (ds : List Deferred) : SR sy G cx ρ env loc { a with defers := ds } := ⟨h.ng, h.size, h.slot⟩

/-- a region, in its text's order -/
theorem ops_ok {ops : Array Oper} {Q : Exit → Act → World → Prop} (hcall : CallerSound sy G B w0 P call) : ∀ (l : List Oper) (env : List CV) (loc : Loc) (st : St) (e : Ex) (env2 : List CV) (st2 : St) (ρ : Ren) (a : Act) (w : World),
    (opsF P cx ops.toList l).f call env loc st = .ok e env2 st2 → SR sy G cx ρ env loc a → DRel sy ρ st.dfs a.defers → WRel sy G B w0 ρ st w →
    (∀ e' a' w', PostC sy G B w0 cx ρ e env2 st2 e' a' w' → Q e' a' w') → wpList P ops Q l a w
  | [], env, loc, st, e, env2, st2, ρ, a, w, hr, hs, hd, hw, hQ => by
    have hr' : R.ok .normal env st = .ok e env2 st2 := hr
    cases hr'
    exact hQ _ _ _ ⟨ρ, Ren.le_refl _, rfl, hs.drop, hd, hw⟩
  | o :: r, env, loc, st, e, env2, st2, ρ, a, w, hr, hs, hd, hw, hQ => by
    -- the operation runs
    have run : ∀ {env : List CV} {loc : Loc} (hs : SR sy G cx ρ env loc a), (match (opF P cx o.op).f call env loc st with
        | .ok v st => (put cx o.dst).f v env loc (fun env loc st => (opsF P cx ops.toList r).f call env loc st) st
        | .pan v st => R.ok (.panic v) env st
        | .err n => .err n) = .ok e env2 st2 → o.wp P a w (wpList P ops Q r) Q := by
      intro env loc hs hr
      have hop := op_ok (o := o) hcall hs hd hw
      generalize (opF P cx o.op).f call env loc st = rv at *
      cases rv with
      | err n => cases hr
      | ok v st1 =>
        simp only at hr
        refine hop _ _ fun ρ' v' w' ds' hle hv hw' hd' => ?_
        obtain ⟨env1, loc1, hr1, hs1⟩ := put_rel (a := { a with defers := ds' }) ((hs.mono hle).dfs ds') hv hr
        refine ops_ok hcall r env1 loc1 st1 e env2 st2 ρ' _ w' hr1 hs1 ?_ hw' fun e' a' w' hp => hQ _ _ _ (hp.mono hle)
        have : (({ a with defers := ds' } : Act).put o.dst v').defers = ds' := by cases o.dst <;> rfl
        rw [this]; exact hd'
      | pan v st1 =>
        simp only at hr
        cases hr
        exact hop _ _ fun ρ' v' w' hle hv hw' hd' => hQ _ _ _ ⟨ρ', hle, ⟨v', rfl, hv⟩, (hs.mono hle).drop, hd', hw'⟩
    unfold opsF at hr
    cases hg : o.guard with
    | none =>
      rw [hg] at hr
      unfold wpList
      rw [if_pos (by simp [Region.wanted, hg])]
      exact .inl (run hs hr)
    | some g =>
      rw [hg] at hr
      simp only at hr
      obtain ⟨b, hb, hr1⟩ := guard_rel hs hg hr
      unfold wpList
      rw [hb]
      cases b with
      | true => rw [if_pos rfl]; exact .inl (run hs hr1)
      | false =>
        rw [if_neg (by simp)]
        obtain ⟨env1, loc1, hr2, hs1⟩ := put_rel (v := .tup []) (v' := undef) hs (by simp only [VRel]; exact ⟨[], rfl, VRels.nil⟩) hr1
        refine ops_ok hcall r env1 loc1 st e env2 st2 ρ _ w hr2 hs1 ?_ hw hQ
        have : (a.put o.dst undef).defers = a.defers := by cases o.dst <;> rfl
        rw [this]; exact hd

/-! ## Code -/
/-- the loop's rounds from a round's beginning -/
def LoopIn (P : Program) (c : Code) (Q : Exit → Act → World → Prop) (a : Act) (w : World) : Prop :=
  ∀ (b : Frame) (k : List Item) (cs : List Frame), ∃ e a' w', Q e a' w' ∧ Arrives P (lone (b.at a (.code c :: .inLoop c :: k)) cs w) b k cs e a' w'
theorem wp_of_loopIn {c : Code} {Q : Exit → Act → World → Prop} (h : LoopIn P c Q a w) : (Code.loop c).wp P Q a w :=
  fun b k cs => let ⟨e, a', w', q, r⟩ := h b k cs; ⟨e, a', w', q, .of_steps (.one step_loop) r⟩
theorem loopIn_step {c : Code} {Q : Exit → Act → World → Prop} (h : c.wp P (Exit.then (LoopIn P c Q) Q) a w) : LoopIn P c Q a w := by
  intro b k cs
  obtain ⟨e, a₁, w₁, hq, harr⟩ := h b (.inLoop c :: k) cs
  cases e with
  | normal =>
    obtain ⟨e₂, a₂, w₂, hq₂, harr₂⟩ := hq b k cs
    exact ⟨e₂, a₂, w₂, hq₂, .of_steps (Steps.trans harr (.one step_inLoop)) harr₂⟩
  | exit id => exact ⟨_, a₁, w₁, hq, .pass (x := .inLoop c) rfl (fun _ _ => .inl (by simp)) harr⟩
  | goto l => exact ⟨_, a₁, w₁, hq, .pass (x := .inLoop c) rfl (fun _ _ => .inl (by simp)) harr⟩
  | ret => exact ⟨_, a₁, w₁, hq, .pass (x := .inLoop c) rfl (fun _ _ => .inl (by simp)) harr⟩
  | panic ch => exact ⟨_, a₁, w₁, hq, .pass (x := .inLoop c) rfl (fun _ _ => .inl (by simp)) harr⟩
  | outgrown => exact ⟨_, a₁, w₁, hq, .pass (x := .inLoop c) rfl (fun _ _ => .inl (by simp)) harr⟩

def Den (sy : Sy) (G : Nat) (B : Kp) (w0 : World) (P : Program) (cx : Cx) (c : Code) (f : List CV → St → R) : Prop :=
  ∀ (env : List CV) (st : St) (e : Ex) (env2 : List CV) (st2 : St) (ρ : Ren) (a : Act) (w : World), f env st = .ok e env2 st2 →
    SR sy G cx ρ env .nil a → DRel sy ρ st.dfs a.defers → WRel sy G B w0 ρ st w → c.wp P (PostC sy G B w0 cx ρ e env2 st2) a w

theorem loop_ok {c : Code} {f : List CV → St → R} (h : Den sy G B w0 P cx c f) : ∀ (n : Nat) (env : List CV) (st : St) (e : Ex) (env2 : List CV) (st2 : St) (ρ : Ren) (a : Act) (w : World), loopF f n env st = .ok e env2 st2 →
    SR sy G cx ρ env .nil a → DRel sy ρ st.dfs a.defers → WRel sy G B w0 ρ st w → LoopIn P c (PostC sy G B w0 cx ρ e env2 st2) a w
  | 0, env, st, e, env2, st2, ρ, a, w, hr, _, _, _ => by
    have : R.err 116 = .ok e env2 st2 := hr
    cases this
  | n + 1, env, st, e, env2, st2, ρ, a, w, hr, hs, hd, hw => by
    have hr' : (match f env st with
      | .ok e env st => match e with
        | .normal => loopF f n env st
        | e => .ok e env st
      | .err n => .err n : R) = .ok e env2 st2 := hr
    cases hf : f env st with
    | err k => rw [hf] at hr'; cases hr'
    | ok e1 env1 st1 =>
      rw [hf] at hr'
      refine loopIn_step (Code.wp_mono (fun e' a' w' hp => ?_) (h env st e1 env1 st1 ρ a w hf hs hd hw))
      obtain ⟨ρ1, hle, hex, hs1, hd1, hw1⟩ := hp
      cases e1 with
      | normal =>
        simp only [ExRel] at hex
        subst hex
        simp only at hr'
        exact fun b k cs => by
          obtain ⟨e3, a3, w3, q3, r3⟩ := loop_ok h n env1 st1 e env2 st2 ρ1 a' w' hr' hs1 hd1 hw1 b k cs
          exact ⟨e3, a3, w3, q3.mono hle, r3⟩
      | exit id =>
        simp only at hr'
        cases hr'
        simp only [ExRel] at hex
        subst hex
        exact ⟨ρ1, hle, rfl, hs1, hd1, hw1⟩
      | ret =>
        simp only at hr'
        cases hr'
        simp only [ExRel] at hex
        subst hex
        exact ⟨ρ1, hle, rfl, hs1, hd1, hw1⟩
      | panic v =>
        simp only at hr'
        cases hr'
        obtain ⟨v', rfl, hv⟩ := hex
        exact ⟨ρ1, hle, ⟨v', rfl, hv⟩, hs1, hd1, hw1⟩

theorem eval_cond {x : Operand} (hs : SR sy G cx ρ env .nil a) (hw : WRel sy G B w0 ρ st w) {b : Bool} (h : (ev cx x).f env .nil = .bool b) : a.eval x = .bool b := by
  have := evRel hs hw x
  rw [h] at this
  simpa [VRel] using this
end
end Go.Proofs.YtbmbjaogcmokoaaGreatDoorX
