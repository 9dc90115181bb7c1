/- Operations: fields of values, interface values, closures, panics, the greater of two. -/
import Derived.Test.YtbmbjaogcmokoaaGreatDoorXExtern
import Derived.Laws.Small
namespace Go.Proofs.YtbmbjaogcmokoaaGreatDoorX
open Go Go.RowKit
set_option linter.unusedVariables false

section
variable {sy : Sy} {G : Nat} {B : Kp} {w0 : World} {P : Program} {ρ ρ' : Ren} {cx : Cx} {env : List CV} {loc : Loc} {a : Act} {st st' : St} {w w' : World} {o : Oper} {call : Caller}

theorem VRels.drop : ∀ (n : Nat) {l : List CV} {l' : List Value}, VRels sy ρ l l' → VRels sy ρ (l.drop n) (l'.drop n)
  | 0, _, _, h => by simpa using h
  | n + 1, [], l', h => by simp only [VRels] at h; subst h; simp [VRels]
  | n + 1, x :: r, l', h => by
    simp only [VRels] at h
    obtain ⟨y, s, rfl, _, hr⟩ := h
    simpa using VRels.drop n hr
theorem VRels.take : ∀ (n : Nat) {l : List CV} {l' : List Value}, VRels sy ρ l l' → VRels sy ρ (l.take n) (l'.take n)
  | 0, _, _, h => by simp [VRels]
  | n + 1, [], l', h => by simp only [VRels] at h; subst h; simp [VRels]
  | n + 1, x :: r, l', h => by
    simp only [VRels] at h
    obtain ⟨y, s, rfl, hx, hr⟩ := h
    simpa using VRels.cons hx (VRels.take n hr)

theorem fieldOf_spec {t f off n : Nat} {g : Bool} (h : fieldOf P t f = some (off, g, n)) : ∃ fs x, P.underlying t = some (.struct fs) ∧ fs[f]? = some x ∧ aggOf P x.type = some g ∧ szOf P x.type = some n ∧ off = x.offset := by
  unfold fieldOf at h
  cases hu : P.underlying t with
  | none => rw [hu] at h; cases h
  | some d =>
    rw [hu] at h
    cases d <;> simp only at h <;> try (cases h; done)
    rename_i fs
    cases hx : fs[f]? with
    | none => rw [hx] at h; cases h
    | some x =>
      rw [hx] at h
      simp only at h
      cases hg : aggOf P x.type with
      | none => rw [hg] at h; cases h
      | some g' =>
        cases hn : szOf P x.type with
        | none => rw [hg, hn] at h; cases h
        | some n' =>
          rw [hg, hn] at h
          cases h
          exact ⟨fs, x, rfl, hx, hg, hn, rfl⟩

theorem field_ok {t f : Nat} {x : Operand} (ho : o.op = .field t x f) (hs : SR sy G cx ρ env loc a) (hd : DRel sy ρ st.dfs a.defers) (hw : WRel sy G B w0 ρ st w) :
    OpRes sy G B w0 P ρ a o w ((oField (fieldOf P t f) (ev cx x)).f call env loc st) := by
  have hx := evRel hs hw x
  unfold oField
  cases hf : fieldOf P t f with
  | none => exact trivial
  | some q =>
    obtain ⟨off, g, n⟩ := q
    obtain ⟨fs, fl, h1, h2, h3, h4, rfl⟩ := fieldOf_spec hf
    simp only
    cases g with
    | true =>
      simp only
      generalize (ev cx x).f env loc = u at *
      cases u <;> try exact trivial
      rename_i l
      simp only [VRel] at hx
      obtain ⟨l', e, hl⟩ := hx
      refine pure_val (v' := .agg ((l'.drop fl.offset).take n).toArray) ?_ hw hd (by simp only [VRel]; exact ⟨_, rfl, (hl.drop _).take _⟩)
      simp only [execOp, ho, Instr.field, Sem.run_bind, run_under h1, Result.andThen, h2, e, asAgg, Sem.run_pure, part, run_agg h3]
      simp [run_size h4]
    | false =>
      simp only
      generalize (ev cx x).f env loc = u at *
      cases u <;> try exact trivial
      rename_i l
      simp only
      cases hv : l[fl.offset]? with
      | none => exact trivial
      | some v =>
        simp only [VRel] at hx
        obtain ⟨l', e, hl⟩ := hx
        obtain ⟨v', k1, k2⟩ := hl.get _ _ hv
        refine pure_val (v' := v') ?_ hw hd k2
        simp [execOp, ho, Instr.field, run_under h1, h2, e, asAgg, part, run_agg h3, k1]

theorem isIface_spec {t : Nat} {b : Bool} (h : isIface P t = some b) : ∃ d, P.underlying t = some d ∧ (b = false → ∀ ms, d ≠ .interface ms) := by
  unfold isIface at h
  cases hu : P.underlying t with
  | none => rw [hu] at h; cases h
  | some d =>
    rw [hu] at h
    simp only [Option.map_some, Option.some.injEq] at h
    refine ⟨d, rfl, fun hb ms e => ?_⟩
    subst e
    rw [← h] at hb
    cases hb

theorem makeIface_ok {t : Nat} {x : Operand} (ho : o.op = .makeInterface t x) (hs : SR sy G cx ρ env loc a) (hd : DRel sy ρ st.dfs a.defers) (hw : WRel sy G B w0 ρ st w) :
    OpRes sy G B w0 P ρ a o w ((oMakeIface (isIface P t) t (ev cx x)).f call env loc st) := by
  have hx := evRel hs hw x
  unfold oMakeIface
  cases hi : isIface P t with
  | none => exact trivial
  | some b =>
    cases b with
    | true => exact trivial
    | false =>
      obtain ⟨d, hu, hne⟩ := isIface_spec hi
      refine pure_val (v' := .iface t (a.eval x)) ?_ hw hd (by simp only [VRel]; exact ⟨_, rfl, hx⟩)
      have : (Instr.makeInterface t (a.eval x)).run P w = .ok (.iface t (a.eval x)) w := by
        simp only [Instr.makeInterface, Sem.run_bind, run_under hu, Result.andThen]
        cases d <;> first | exact absurd rfl (hne rfl _) | rfl
      simp [execOp, ho, this]

theorem makeFunc_ok {f : Fn} {fi ca : Array Operand} (ho : o.op = .makeFunc f fi ca) (hs : SR sy G cx ρ env loc a) (hd : DRel sy ρ st.dfs a.defers) (hw : WRel sy G B w0 ρ st w) :
    OpRes sy G B w0 P ρ a o w (.ok (.func f ((evs cx fi.toList).f env loc) ((evs cx ca.toList).f env loc)) st) := by
  refine pure_val (v' := .func f (fi.toList.map a.eval).toArray (ca.toList.map a.eval).toArray) ?_ hw hd (by simp only [VRel]; exact ⟨_, _, rfl, evsRel hs hw _, evsRel hs hw _⟩)
  simp only [execOp, ho, Instr.makeFunc, Sem.run_bind, Sem.run_pure, Result.andThen]
  rw [show Array.map a.eval fi = (List.map a.eval fi.toList).toArray from Array.toList_inj.1 (by simp), show Array.map a.eval ca = (List.map a.eval ca.toList).toArray from Array.toList_inj.1 (by simp)]

theorem assert_ok {t t0 : Nat} {ok : Bool} {x : Operand} (ho : o.op = .typeAssert x t0 t ok) (hs : SR sy G cx ρ env loc a) (hd : DRel sy ρ st.dfs a.defers) (hw : WRel sy G B w0 ρ st w) :
    OpRes sy G B w0 P ρ a o w ((oAssert (isIface P t) (zeroOf P t) t ok (ev cx x)).f call env loc st) := by
  have hx := evRel hs hw x
  unfold oAssert
  cases ok with
  | false =>
    cases hi : isIface P t with
    | none => exact trivial
    | some b =>
      cases b with
      | true => exact trivial
      | false =>
        obtain ⟨d, hu, hne⟩ := isIface_spec hi
        simp only
        generalize (ev cx x).f env loc = u at *
        cases u <;> try exact trivial
        rename_i t' v
        simp only [VRel] at hx
        obtain ⟨v', e, hv⟩ := hx
        simp only
        cases hb : Nat.beq t' t with
        | false => exact trivial
        | true =>
          have : t' = t := Nat.eq_of_beq_eq_true hb
          subst this
          refine pure_val (v' := v') ?_ hw hd hv
          have : (Instr.typeAssert (a.eval x) t0 t' false).run P w = .ok v' w := by
            rw [e]
            simp only [Instr.typeAssert, Sem.run_bind, run_under hu, Result.andThen]
            cases d <;> first | exact absurd rfl (hne rfl _) | simp
          simp [execOp, ho, this]
  | true =>
    cases hi : isIface P t with
    | none => exact trivial
    | some b =>
      cases b with
      | true => exact trivial
      | false =>
        cases hz : zeroOf P t with
        | none => exact trivial
        | some z =>
          obtain ⟨d, hu, hne⟩ := isIface_spec hi
          obtain ⟨z', hz1, hz2, _⟩ := run_zero (sy := sy) hz w ρ
          simp only
          generalize (ev cx x).f env loc = u at *
          cases u <;> try exact trivial
          · rename_i t' v
            simp only [VRel] at hx
            obtain ⟨v', e, hv⟩ := hx
            simp only
            cases hb : Nat.beq t' t with
            | true =>
              have : t' = t := Nat.eq_of_beq_eq_true hb
              subst this
              refine pure_val (v' := .tuple [v', .bool true].toArray) ?_ hw hd (by simp only [VRel]; exact ⟨_, rfl, VRels.cons hv (VRels.cons (by simp [VRel]) VRels.nil)⟩)
              have : (Instr.typeAssert (a.eval x) t0 t' true).run P w = .ok (.tuple [v', .bool true].toArray) w := by
                rw [e]
                simp only [Instr.typeAssert, Sem.run_bind, run_under hu, Result.andThen]
                cases d <;> first | exact absurd rfl (hne rfl _) | simp
              simp [execOp, ho, this]
            | false =>
              have hn : ¬ t' = t := fun h => by rw [h] at hb; simp at hb
              refine pure_val (v' := .tuple [z', .bool false].toArray) ?_ hw hd (by simp only [VRel]; exact ⟨_, rfl, VRels.cons hz2 (VRels.cons (by simp [VRel]) VRels.nil)⟩)
              have : (Instr.typeAssert (a.eval x) t0 t true).run P w = .ok (.tuple [z', .bool false].toArray) w := by
                rw [e]
                simp only [Instr.typeAssert, Sem.run_bind, run_under hu, Result.andThen]
                cases d <;> first | exact absurd rfl (hne rfl _) | simp [hn, hz1]
              simp [execOp, ho, this]
          · simp only [VRel] at hx
            refine pure_val (v' := .tuple [z', .bool false].toArray) ?_ hw hd (by simp only [VRel]; exact ⟨_, rfl, VRels.cons hz2 (VRels.cons (by simp [VRel]) VRels.nil)⟩)
            have : (Instr.typeAssert (a.eval x) t0 t true).run P w = .ok (.tuple [z', .bool false].toArray) w := by
              rw [hx]
              simp only [Instr.typeAssert, Sem.run_bind, run_under hu, Result.andThen]
              cases d <;> first | exact absurd rfl (hne rfl _) | simp [hz1]
            simp [execOp, ho, this]

theorem panic_ok {x : Operand} (ho : o.op = .panic x) (hs : SR sy G cx ρ env loc a) (hd : DRel sy ρ st.dfs a.defers) (hw : WRel sy G B w0 ρ st w) :
    OpRes sy G B w0 P ρ a o w ((oPanic (ev cx x)).f call env loc st) := by
  have hx := evRel hs hw x
  unfold oPanic
  simp only
  generalize (ev cx x).f env loc = u at *
  cases u <;> try exact trivial
  rename_i t v
  have hx' := hx
  simp only [VRel] at hx
  obtain ⟨v', e, hv⟩ := hx
  intro next Q h
  unfold Oper.wp
  have : (execOp a.eval o).run P w = .halt (.panic (a.eval x)) w := by
    simp [execOp, ho, Instr.panic, e, goPanic]
  rw [this]
  exact h ρ (a.eval x) w (Ren.le_refl _) hx' hw hd

theorem max_ok {c : Call} {x y : Operand} (ho : o.op = .call c) (hc : c.callee = .builtin .max) (ha : c.args.toList = [x, y]) (hs : SR sy G cx ρ env loc a) (hd : DRel sy ρ st.dfs a.defers) (hw : WRel sy G B w0 ρ st w) :
    OpRes sy G B w0 P ρ a o w ((oMax (ev cx x) (ev cx y)).f call env loc st) := by
  have hx := evRel hs hw x
  have hy := evRel hs hw y
  have ha' : c.args = #[x, y] := Array.toList_inj.1 (by simpa using ha)
  unfold oMax
  simp only
  generalize (ev cx x).f env loc = u at *
  cases u <;> try exact trivial
  simp only
  generalize (ev cx y).f env loc = v at *
  cases v <;> try exact trivial
  rename_i k m k' n
  simp only [VRel] at hx hy
  have hrun : (execOp a.eval o).run P w = .ok (.value (.int k (if n > m then n else m))) w := by
    rw [builtin_call (s := do pure (.value (← Builtin.max_ c.argTypes o.type #[a.eval x, a.eval y]))) ho hc (fun _ => by rw [ha']; simp [builtin]), hx, hy]
    simp [Builtin.max_, Builtin.max2]
  simp only
  cases hdc : decide (n > m) with
  | true =>
    have : n > m := of_decide_eq_true hdc
    exact pure_val (v' := .int k n) (by rw [hrun, if_pos this]) hw hd (by simp only [VRel])
  | false =>
    have : ¬ n > m := of_decide_eq_false hdc
    exact pure_val (v' := .int k m) (by rw [hrun, if_neg this]) hw hd (by simp only [VRel])

theorem min_ok {c : Call} {x y : Operand} (ho : o.op = .call c) (hc : c.callee = .builtin .min) (ha : c.args.toList = [x, y]) (hs : SR sy G cx ρ env loc a) (hd : DRel sy ρ st.dfs a.defers) (hw : WRel sy G B w0 ρ st w) :
    OpRes sy G B w0 P ρ a o w ((oMin (ev cx x) (ev cx y)).f call env loc st) := by
  have hx := evRel hs hw x
  have hy := evRel hs hw y
  have ha' : c.args = #[x, y] := Array.toList_inj.1 (by simpa using ha)
  unfold oMin
  simp only
  generalize (ev cx x).f env loc = u at *
  cases u <;> try exact trivial
  simp only
  generalize (ev cx y).f env loc = v at *
  cases v <;> try exact trivial
  rename_i k m k' n
  simp only [VRel] at hx hy
  have hrun : (execOp a.eval o).run P w = .ok (.value (.int k (if n < m then n else m))) w := by
    rw [builtin_call (s := do pure (.value (← Builtin.min_ c.argTypes o.type #[a.eval x, a.eval y]))) ho hc (fun _ => by rw [ha']; simp [builtin]), hx, hy]
    simp [Builtin.min_, Builtin.min2]
  simp only
  cases hdc : decide (n < m) with
  | true =>
    have : n < m := of_decide_eq_true hdc
    exact pure_val (v' := .int k n) (by rw [hrun, if_pos this]) hw hd (by simp only [VRel])
  | false =>
    have : ¬ n < m := of_decide_eq_false hdc
    exact pure_val (v' := .int k m) (by rw [hrun, if_neg this]) hw hd (by simp only [VRel])
end
end Go.Proofs.YtbmbjaogcmokoaaGreatDoorX
