/- Deferred functions: what the executor says, the model does. -/
import Derived.Test.YtbmbjaogcmokoaaGreatDoorXRun
import Derived.Recover
namespace Go.Proofs.YtbmbjaogcmokoaaGreatDoorX
open Go Go.RowKit
set_option linter.unusedVariables false

section
variable {sy : Sy} {G : Nat} {B : Kp} {w0 : World} {P : Program} {ρ ρ' : Ren} {cx : Cx} {env env' : List CV} {loc : Loc} {a : Act} {st st' : St} {w w' : World} {o : Oper} {call : Caller} {ex : Ex}

theorem putS_rel {v : CV} {v' : Value} {d : Option Nat} {K : List CV → Loc → RS} (hs : SR sy G cx ρ env loc a) (hv : VRel sy ρ v v') {e : Ex} {env2 : List CV} {st2 : St} {m2 : Option Md}
    (hr : (putS cx d).f v env loc K = .ok e env2 st2 m2) : ∃ env1 loc1, K env1 loc1 = .ok e env2 st2 m2 ∧ SR sy G cx ρ env1 loc1 (a.put d v') := by
  unfold putS at hr
  cases d with
  | none => exact ⟨env, loc, hr, hs⟩
  | some t =>
    simp only at hr
    cases hb : Nat.blt t cx.nt with
    | false => rw [hb] at hr; cases hr
    | true =>
      have hlt : t < a.tmps.size := Nat.lt_of_lt_of_le (by simpa [Nat.blt_eq] using hb) hs.size
      rw [hb] at hr
      simp only at hr
      have hslot : ∀ u, (a.put (some t) v').tmps.getD u undef = if u = t then v' else a.tmps.getD u undef := fun u => getD_set _ _ _ _ _ hlt
      cases hp : pos cx.vars t with
      | some k =>
        rw [hp] at hr
        refine ⟨_, _, hr, hs.ng, by simp [Act.put]; exact hs.size, fun u => ?_⟩
        rw [hslot]
        have hu := hs.slot u
        unfold look at hu ⊢
        cases hpu : pos cx.vars u with
        | none =>
          rw [hpu] at hu
          have hne : u ≠ t := fun e => by subst e; rw [hp] at hpu; cases hpu
          rw [if_neg hne]; exact hu
        | some j =>
          rw [hpu] at hu
          simp only at hu ⊢
          rw [nth_setNth]
          by_cases hut : u = t
          · subst hut
            rw [hp] at hpu; cases hpu
            rw [if_pos rfl]
            by_cases hk : k < env.length
            · rw [if_pos ⟨rfl, hk⟩]; exact hv
            · rw [if_neg (by omega), nth_ge env k (by omega)]; simp [VRel]
          · rw [if_neg hut]
            have hjk : j ≠ k := fun e => by subst e; exact hut (pos_inj hpu hp)
            rw [if_neg (by omega)]; exact hu
      | none =>
        rw [hp] at hr
        refine ⟨_, _, hr, hs.ng, by simp [Act.put]; exact hs.size, fun u => ?_⟩
        rw [hslot]
        have hu := hs.slot u
        unfold look at hu ⊢
        cases hpu : pos cx.vars u with
        | some j =>
          rw [hpu] at hu
          have hne : u ≠ t := fun e => by subst e; rw [hp] at hpu; cases hpu
          rw [if_neg hne]; exact hu
        | none =>
          rw [hpu] at hu
          simp only at hu ⊢
          rw [loc_look_cons]
          by_cases hut : u = t
          · subst hut
            rw [if_pos rfl, show Nat.beq u u = true from Nat.beq_refl u]; exact hv
          · rw [if_neg hut]
            have : Nat.beq t u = false := by
              cases hx : Nat.beq t u with
              | false => rfl
              | true => exact absurd (Nat.eq_of_beq_eq_true hx).symm hut
            rw [this]; exact hu

/-- how the frame above is -/
def MdRel (sy : Sy) (ρ : Ren) : Option Md → FrameMode → Prop
  | none, u => u = .returning
  | some x, u => ∃ v', u = .panicking [⟨v', x.rcv, false⟩] ∧ VRel sy ρ x.v v'
theorem MdRel.mono (h : ρ.le ρ') {m : Option Md} {u : FrameMode} (k : MdRel sy ρ m u) : MdRel sy ρ' m u := by
  cases m with
  | none => exact k
  | some x => obtain ⟨v', h1, h2⟩ := k; exact ⟨v', h1, h2.mono sy h⟩

/-- what is owed behind a code of a deferred function -/
def PostS (sy : Sy) (G : Nat) (B : Kp) (w0 : World) (cx : Cx) (ρ : Ren) (c₀ : Frame) (cs : List Frame) (e : Ex) (env : List CV) (st : St) (m : Option Md) : Exit → Act → List Frame → World → Prop := fun e' a' cs' w' =>
  ∃ ρ' u', ρ.le ρ' ∧ ExRel sy ρ' e e' ∧ SR sy G cx ρ' env .nil a' ∧ DRel sy ρ' st.dfs a'.defers ∧ WRel sy G B w0 ρ' st w' ∧ MdRel sy ρ' m u' ∧ cs' = { c₀ with mode := u' } :: cs

theorem isRecover_spec (h : isRecover o = true) : ∃ c, o.op = .call c ∧ c.callee = .builtin .recover ∧ c.args = #[] := by
  unfold isRecover at h
  cases ho : o.op <;> rw [ho] at h <;> simp only at h <;> try (cases h; done)
  rename_i c
  cases hc : c.callee <;> rw [hc] at h <;> simp only at h <;> try (cases h; done)
  rename_i b
  cases b <;> simp only at h <;> try (cases h; done)
  cases ha : c.args.toList with
  | nil => exact ⟨c, rfl, hc, Array.toList_inj.1 (by simpa using ha)⟩
  | cons x y => rw [ha] at h; cases h

theorem recover_run {c : Call} (ho : o.op = .call c) (hc : c.callee = .builtin .recover) (ha : c.args = #[]) : (execOp a.eval o).run P w = .ok .recover w := by
  simp only [execOp, ho, resolve, hc, Sem.run_bind, Sem.run_pure, Result.andThen, invoke, builtin]

theorem opsS_ok {ops : Array Oper} {Q : Exit → Act → List Frame → World → Prop} {c₀ : Frame} {cs : List Frame} (hcall : CallerSound sy G B w0 P call) : ∀ (l : List Oper) (k : Nat), ops.toList.drop k = l → ∀ (env : List CV) (loc : Loc) (st : St) (m : Option Md) (e : Ex) (env2 : List CV) (st2 : St) (m2 : Option Md) (ρ : Ren) (u : FrameMode) (a : Act) (w : World),
    (opsS P cx l).f call env loc st m = .ok e env2 st2 m2 → SR sy G cx ρ env loc a → DRel sy ρ st.dfs a.defers → WRel sy G B w0 ρ st w → MdRel sy ρ m u →
    (∀ e' a' cs' w', PostS sy G B w0 cx ρ c₀ cs e env2 st2 m2 e' a' cs' w' → Q e' a' cs' w') → wpOpsS P ops Q ((List.range ops.size).drop k) a ({ c₀ with mode := u } :: cs) w
  | [], k, hk, env, loc, st, m, e, env2, st2, m2, ρ, u, a, w, hr, hs, hd, hw, hm, hQ => by
    have hlen : ops.size ≤ k := by
      have := congrArg List.length hk
      simp at this
      omega
    rw [List.drop_of_length_le (by simpa using hlen)]
    have hr' : RS.ok .normal env st m = .ok e env2 st2 m2 := hr
    cases hr'
    exact hQ _ _ _ _ ⟨ρ, u, Ren.le_refl _, rfl, hs.drop, hd, hw, hm, rfl⟩
  | o :: r, k, hk, env, loc, st, m, e, env2, st2, m2, ρ, u, a, w, hr, hs, hd, hw, hm, hQ => by
    have hlt : k < ops.size := by
      rcases Nat.lt_or_ge k ops.size with h | h
      · exact h
      · rw [List.drop_of_length_le (by simpa using h)] at hk; cases hk
    have hop : ops[k]? = some o := by
      have := congrArg (·[0]?) hk
      simpa using this
    have hk' : ops.toList.drop (k + 1) = r := by
      have := congrArg List.tail hk
      simpa using this
    have hrange : (List.range ops.size).drop k = k :: (List.range ops.size).drop (k + 1) := by
      rw [List.drop_eq_getElem_cons (by simpa using hlt)]
      simp
    rw [hrange]
    unfold wpOpsS
    simp only [hop]
    unfold opsS at hr
    cases hg : o.guard with
    | some g => rw [hg] at hr; cases hrc : isRecover o <;> rw [hrc] at hr <;> cases hr
    | none =>
      rw [hg] at hr
      rw [if_pos (by simp [Region.wanted, hg])]
      cases hrec : isRecover o with
      | true =>
        rw [hrec] at hr
        simp only at hr
        obtain ⟨c, h1, h2, h3⟩ := isRecover_spec hrec
        rw [recover_run h1 h2 h3]
        simp only
        have go : ∀ {v : CV} {v' : Value} {m1 : Option Md} {u1 : FrameMode}, VRel sy ρ v v' → MdRel sy ρ m1 u1 →
            ((putS cx o.dst).f v env loc fun env loc => (opsS P cx r).f call env loc st m1) = .ok e env2 st2 m2 → wpOpsS P ops Q ((List.range ops.size).drop (k + 1)) (a.put o.dst v') ({ c₀ with mode := u1 } :: cs) w := fun {v v' m1 u1} hv hm1 hr1 => by
          obtain ⟨env1, loc1, hr2, hs1⟩ := putS_rel hs hv hr1
          refine opsS_ok hcall r (k + 1) hk' env1 loc1 st m1 e env2 st2 m2 ρ u1 _ w hr2 hs1 ?_ hw hm1 hQ
          have : (a.put o.dst v').defers = a.defers := by cases o.dst <;> rfl
          rw [this]; exact hd
        cases m with
        | none =>
          have hu : u = .returning := hm
          subst hu
          exact go (v := .nili) (v' := .nilIface) (m1 := none) (by simp only [VRel]) rfl hr
        | some x =>
          obtain ⟨v, q⟩ := x
          obtain ⟨v', hu, hv⟩ := hm
          simp only at hu hv
          subst hu
          cases q with
          | true => exact go (v := .nili) (v' := .nilIface) (m1 := some ⟨v, true⟩) (by simp only [VRel]) ⟨v', rfl, hv⟩ hr
          | false => exact go (v := v) (v' := v') (m1 := some ⟨v, true⟩) hv ⟨v', rfl, hv⟩ hr
      | false =>
        rw [hrec] at hr
        simp only at hr
        have hopr := op_ok (o := o) hcall hs hd hw
        generalize (opF P cx o.op).f call env loc st = rv at *
        have key : o.wp P a w (fun a' w' => wpOpsS P ops Q ((List.range ops.size).drop (k + 1)) a' ({ c₀ with mode := u } :: cs) w') (fun e' a' w' => Q e' a' ({ c₀ with mode := u } :: cs) w') := by
          cases rv with
          | err n => cases hr
          | ok v st1 =>
            simp only at hr
            refine hopr _ _ fun ρ' v' w' ds' hle hv hw' hd' => ?_
            obtain ⟨env1, loc1, hr1, hs1⟩ := putS_rel (a := { a with defers := ds' }) ((hs.mono hle).dfs ds') hv hr
            refine opsS_ok hcall r (k + 1) hk' env1 loc1 st1 m e env2 st2 m2 ρ' u _ w' hr1 hs1 ?_ hw' (hm.mono hle) fun e' a' cs' w' ⟨ρ2, u2, q1, q2, q3⟩ => hQ _ _ _ _ ⟨ρ2, u2, Ren.le_trans hle q1, q2, q3⟩
            have : (({ a with defers := ds' } : Act).put o.dst v').defers = ds' := by cases o.dst <;> rfl
            rw [this]; exact hd'
          | pan v st1 =>
            simp only at hr
            cases hr
            exact hopr _ _ fun ρ' v' w' hle hv hw' hd' => hQ _ _ _ _ ⟨ρ', u, hle, ⟨v', rfl, hv⟩, (hs.mono hle).drop, hd', hw', hm.mono hle, rfl⟩
        unfold Oper.wp at key
        split
        · rename_i w1 hrun
          rw [hrun] at key
          exact key.elim
        · exact key

theorem denS_ok (hcall : CallerSound sy G B w0 P call) (hden : ∀ c, Den sy G B w0 P cx c ((den P cx c).f call)) : ∀ (c : Code) (env : List CV) (st : St) (m : Option Md) (e : Ex) (env2 : List CV) (st2 : St) (m2 : Option Md) (ρ : Ren) (u : FrameMode) (a : Act) (w : World) (c₀ : Frame) (cs : List Frame),
    (denS P cx c).f call env st m = .ok e env2 st2 m2 → SR sy G cx ρ env .nil a → DRel sy ρ st.dfs a.defers → WRel sy G B w0 ρ st w → MdRel sy ρ m u →
    c.wpS P (PostS sy G B w0 cx ρ c₀ cs e env2 st2 m2) a ({ c₀ with mode := u } :: cs) w := by
  intro c
  -- without a recovery
  have plain : ∀ (c : Code) (env : List CV) (st : St) (m : Option Md) (e : Ex) (env2 : List CV) (st2 : St) (m2 : Option Md) (ρ : Ren) (u : FrameMode) (a : Act) (w : World) (c₀ : Frame) (cs : List Frame),
      (match (den P cx c).f call env st with | .ok e env st => RS.ok e env st m | .err n => .err n) = .ok e env2 st2 m2 → SR sy G cx ρ env .nil a → DRel sy ρ st.dfs a.defers → WRel sy G B w0 ρ st w → MdRel sy ρ m u →
      c.wpS P (PostS sy G B w0 cx ρ c₀ cs e env2 st2 m2) a ({ c₀ with mode := u } :: cs) w := by
    intro c env st m e env2 st2 m2 ρ u a w c₀ cs hr hs hd hw hm
    cases hx : (den P cx c).f call env st with
    | err n => rw [hx] at hr; cases hr
    | ok e1 env1 st1 =>
      rw [hx] at hr
      cases hr
      exact wpS_of_wp (Code.wp_mono (fun e' a' w' ⟨ρ1, q1, q2, q3, q4, q5⟩ => ⟨ρ1, u, q1, q2, q3, q4, q5, hm.mono q1, rfl⟩) (hden c env st e env2 st2 ρ a w hx hs hd hw))
  induction c with
  | seq x y ihx ihy =>
    intro env st m e env2 st2 m2 ρ u a w c₀ cs hr hs hd hw hm
    unfold denS at hr
    simp only at hr
    cases hx : (denS P cx x).f call env st m with
    | err n => rw [hx] at hr; cases hr
    | ok e1 env1 st1 m1 =>
      rw [hx] at hr
      have h1 := ihx env st m e1 env1 st1 m1 ρ u a w c₀ cs hx hs hd hw hm
      refine wpS_seq (fun b k hb hro => ?_)
      obtain ⟨e', a', cs', w', hp, harr⟩ := h1 b k hb hro
      refine ⟨e', a', cs', w', ?_, harr⟩
      obtain ⟨ρ1, u1, q1, q2, q3, q4, q5, q6, rfl⟩ := hp
      cases e1 with
      | normal =>
        simp only at hr
        have he : e' = .normal := q2
        subst he
        intro b2 k2 hb2 hro2
        obtain ⟨e3, a3, cs3, w3, ⟨ρ3, u3, p1, p2⟩, r3⟩ := ihy env1 st1 m1 e env2 st2 m2 ρ1 u1 a' w' c₀ cs hr q3 q4 q5 q6 b2 k2 hb2 hro2
        exact ⟨e3, a3, cs3, w3, ⟨ρ3, u3, Ren.le_trans q1 p1, p2⟩, r3⟩
      | exit id =>
        simp only at hr
        cases hr
        have he : e' = .exit id := q2
        subst he
        exact ⟨ρ1, u1, q1, rfl, q3, q4, q5, q6, rfl⟩
      | ret =>
        simp only at hr
        cases hr
        have he : e' = .ret := q2
        subst he
        exact ⟨ρ1, u1, q1, rfl, q3, q4, q5, q6, rfl⟩
      | panic v =>
        simp only at hr
        cases hr
        obtain ⟨v', rfl, hv⟩ := q2
        exact ⟨ρ1, u1, q1, ⟨v', rfl, hv⟩, q3, q4, q5, q6, rfl⟩
  | cond x y z ihy ihz =>
    intro env st m e env2 st2 m2 ρ u a w c₀ cs hr hs hd hw hm
    unfold denS at hr
    simp only at hr
    cases hx : (ev cx x).f env .nil <;> rw [hx] at hr <;> simp only at hr <;> try (cases hr; done)
    rename_i t
    have hc := eval_cond hs hw hx
    refine wpS_cond hc ?_
    cases t with
    | true => exact ihy env st m e env2 st2 m2 ρ u a w c₀ cs hr hs hd hw hm
    | false => exact ihz env st m e env2 st2 m2 ρ u a w c₀ cs hr hs hd hw hm
  | region id ops draw =>
    intro env st m e env2 st2 m2 ρ u a w c₀ cs hr hs hd hw hm
    unfold denS at hr
    cases draw with
    | true => exact plain _ env st m e env2 st2 m2 ρ u a w c₀ cs hr hs hd hw hm
    | false =>
      cases hany : ops.toList.any isRecover with
      | false => rw [hany] at hr; exact plain _ env st m e env2 st2 m2 ρ u a w c₀ cs hr hs hd hw hm
      | true =>
        rw [hany] at hr
        refine wpS_region ?_
        have := opsS_ok (ops := ops) (Q := PostS sy G B w0 cx ρ c₀ cs e env2 st2 m2) (c₀ := c₀) (cs := cs) hcall ops.toList 0 rfl env .nil st m e env2 st2 m2 ρ u a w hr hs hd hw hm fun _ _ _ _ h => h
        simpa using this
  | _ =>
    intro env st m e env2 st2 m2 ρ u a w c₀ cs hr hs hd hw hm
    unfold denS at hr
    exact plain _ env st m e env2 st2 m2 ρ u a w c₀ cs hr hs hd hw hm
end
end Go.Proofs.YtbmbjaogcmokoaaGreatDoorX
