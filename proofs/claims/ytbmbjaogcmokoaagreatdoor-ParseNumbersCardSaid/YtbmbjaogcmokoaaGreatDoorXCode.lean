/- Regions, code, calls: what the executor says, the model does. -/
import Derived.Test.YtbmbjaogcmokoaaGreatDoorXDefer
import Derived.Scope
namespace Go.Proofs.YtbmbjaogcmokoaaGreatDoorX
open Go Go.RowKit
set_option linter.unusedVariables false

section
variable (sy : Sy) (G : Nat) (B : Kp) (w0 : World) (P : Program)

def RetOk (ρ : Ren) (f : Nat) (args' : List Value) (st : St) (w : World) : RV → Prop
  | .err _ => True
  | .ok v st' => st'.dfs = st.dfs ∧ Calls P f args'.toArray w fun e w' => ∃ ρ' v', e = .returned v' ∧ ρ.le ρ' ∧ VRel sy ρ' v v' ∧ WRel sy G B w0 ρ' st' w'
  | .pan v st' => st'.dfs = st.dfs ∧ Calls P f args'.toArray w fun e w' => ∃ ρ' v', e = .panicked [⟨v', false, false⟩] ∧ ρ.le ρ' ∧ VRel sy ρ' v v' ∧ WRel sy G B w0 ρ' st' w'
def CallerSound (call : Caller) : Prop :=
  ∀ f args st ρ w args', VRels sy ρ args args' → WRel sy G B w0 ρ st w → enters P f = true → RetOk sy G B w0 P ρ f args' st w (call f args st)

def ExRel (ρ : Ren) : Ex → Exit → Prop
  | .normal, e => e = .normal
  | .exit id, e => e = .exit id
  | .ret, e => e = .ret
  | .panic v, e => ∃ v', e = .panic [⟨v', false, false⟩] ∧ VRel sy ρ v v'

def PostC (cx : Cx) (ρ : Ren) (e : Ex) (env : List CV) (st : St) : Exit → Act → World → Prop := fun e' a' w' =>
  ∃ ρ', ρ.le ρ' ∧ ExRel sy ρ' e e' ∧ SR sy G cx ρ' env .nil a' ∧ DRel sy ρ' st.dfs a'.defers ∧ WRel sy G B w0 ρ' st w'
end

section
variable {sy : Sy} {G : Nat} {B : Kp} {w0 : World} {P : Program} {ρ ρ' : Ren} {cx : Cx} {env env' : List CV} {loc : Loc} {a : Act} {st st' : St} {w w' : World} {o : Oper} {call : Caller} {ex : Ex}

theorem ExRel.mono (h : ρ.le ρ') {e : Ex} {e' : Exit} (k : ExRel sy ρ e e') : ExRel sy ρ' e e' := by
  cases e <;> try exact k
  obtain ⟨v', h1, h2⟩ := k
  exact ⟨v', h1, h2.mono sy h⟩
theorem PostC.mono (h : ρ.le ρ') {e : Ex} {e' : Exit} {a' : Act} {w' : World} (k : PostC sy G B w0 cx ρ' e env st e' a' w') : PostC sy G B w0 cx ρ e env st e' a' w' := by
  obtain ⟨ρ2, h1, h2⟩ := k
  exact ⟨ρ2, Ren.le_trans h h1, h2⟩

/-! ## Calls as operations -/
theorem enters_run {g : Nat} (h : enters P g = true) (args : Array Value) (w : World) : (callFunc g args).run P w = .ok (.enter g args) w := by
  unfold enters at h
  cases hf : P.funcs[g]? with
  | none => rw [hf] at h; cases h
  | some fn =>
    rw [hf] at h
    simp only at h
    cases hb : fn.body with
    | none => rw [hb] at h; cases h
    | some c =>
      rw [hb] at h
      have hn : (fn.name == "runtime.NumGoroutine") = false := by simpa using h
      simp [callFunc, hf, hb]
      intro e
      rw [e] at hn
      simp at hn

theorem call_ok {c : Call} {f : Operand} (hcall : CallerSound sy G B w0 P call) (ho : o.op = .call c) (hc : c.callee = .value f) (hs : SR sy G cx ρ env loc a) (hd : DRel sy ρ st.dfs a.defers) (hw : WRel sy G B w0 ρ st w) :
    OpRes sy G B w0 P ρ a o w (callV P ((ev cx f).f env loc) ((evs cx c.args.toList).f env loc) call st) := by
  have hf := evRel hs hw f
  have hargs := evsRel hs hw c.args.toList
  unfold callV
  generalize (ev cx f).f env loc = vf at *
  cases vf <;> try exact trivial
  rename_i fn fi ca
  simp only
  cases fn <;> try exact trivial
  rename_i g
  simp only [VRel] at hf
  obtain ⟨fi', ca', e, h1, h2⟩ := hf
  simp only [callG]
  cases hen : enters P g with
  | false =>
    simp only
    have hall := (h1.append hargs).append h2
    generalize hr : externF (externId P g) (fi ++ (evs cx c.args.toList).f env loc ++ ca) st = r
    rcases extern_ok hw hall hr with ⟨k, rfl⟩ | ⟨v, v', st1, w1, rfl, hdf, hv, hw1, hrun⟩
    · exact trivial
    · refine ok_val (v' := v') (w' := w1) ?_ (Ren.le_refl _) hv hw1 (by rw [hdf]; exact hd)
      simp only [execOp, ho, resolve, hc, Sem.run_bind, Result.andThen, e, Deferred.ofValue, Sem.run_pure, invoke]
      rw [← hrun]
      congr 2
      simp
  | true =>
    simp only
    have hall := (h1.append hargs).append h2
    have hret := hcall g _ st ρ w _ hall hw hen
    generalize call g (fi ++ (evs cx c.args.toList).f env loc ++ ca) st = r at *
    have hrun : (execOp a.eval o).run P w = .ok (.enter g (fi' ++ List.map a.eval c.args.toList ++ ca').toArray) w := by
      simp only [execOp, ho, resolve, hc, Sem.run_bind, Result.andThen, e, Deferred.ofValue, Sem.run_pure, invoke]
      rw [enters_run hen]
      congr 2
      simp
    cases r with
    | err n => exact trivial
    | ok v st' =>
      obtain ⟨hd', hcalls⟩ := hret
      intro next Q h
      unfold Oper.wp
      rw [hrun]
      refine Calls.mono hcalls fun e w' ⟨ρ', v', he, hle, hv, hw'⟩ => ?_
      subst he
      exact h ρ' v' w' a.defers hle hv hw' (by rw [hd']; exact hd.mono hle)
    | pan v st' =>
      obtain ⟨hd', hcalls⟩ := hret
      intro next Q h
      unfold Oper.wp
      rw [hrun]
      refine Calls.mono hcalls fun e w' ⟨ρ', v', he, hle, hv, hw'⟩ => ?_
      subst he
      exact h ρ' v' w' hle hv hw' (by rw [hd']; exact hd.mono hle)

theorem builtin_ok {c : Call} {b : Builtin} (ho : o.op = .call c) (hc : c.callee = .builtin b) (hs : SR sy G cx ρ env loc a) (hd : DRel sy ρ st.dfs a.defers) (hw : WRel sy G B w0 ρ st w) :
    OpRes sy G B w0 P ρ a o w ((oBuiltin P cx b c.args.toList c.argTypes.toList).f call env loc st) := by
  cases b <;> try exact trivial
  case len =>
    generalize hA : c.args.toList = A
    generalize hT : c.argTypes.toList = T
    rcases A with _ | ⟨x, _ | ⟨y, A⟩⟩ <;> rcases T with _ | ⟨t, _ | ⟨t2, T⟩⟩ <;> first | exact trivial | exact len_ok ho hc hA hT hs hd hw
  case append =>
    generalize hA : c.args.toList = A
    generalize hT : c.argTypes.toList = T
    rcases A with _ | ⟨x, _ | ⟨y, _ | ⟨z, A⟩⟩⟩ <;> rcases T with _ | ⟨t, _ | ⟨t2, _ | ⟨t3, T⟩⟩⟩ <;> first | exact trivial | exact append_ok ho hc hA hT hs hd hw
  case delete =>
    generalize hA : c.args.toList = A
    generalize hT : c.argTypes.toList = T
    rcases A with _ | ⟨x, _ | ⟨y, _ | ⟨z, A⟩⟩⟩ <;> rcases T with _ | ⟨t, _ | ⟨t2, _ | ⟨t3, T⟩⟩⟩ <;> first | exact trivial | exact delete_ok ho hc hA hT hs hd hw
  case unsafeSliceData =>
    generalize hA : c.args.toList = A
    rcases A with _ | ⟨x, _ | ⟨y, A⟩⟩ <;> first | exact trivial | exact sliceData_ok ho hc hA hs hd hw
  case unsafeString =>
    generalize hA : c.args.toList = A
    generalize hT : c.argTypes.toList = T
    rcases A with _ | ⟨x, _ | ⟨y, _ | ⟨z, A⟩⟩⟩ <;> rcases T with _ | ⟨t, _ | ⟨t2, _ | ⟨t3, T⟩⟩⟩ <;> try exact trivial
    unfold oBuiltin
    simp only
    cases he : bytePtr P t with
    | none => exact trivial
    | some e => exact unsafeStr_ok ho hc hA hT he hs hd hw
  case max =>
    generalize hA : c.args.toList = A
    rcases A with _ | ⟨x, _ | ⟨y, _ | ⟨z, A⟩⟩⟩ <;> first | exact trivial | exact max_ok ho hc hA hs hd hw
  case min =>
    generalize hA : c.args.toList = A
    rcases A with _ | ⟨x, _ | ⟨y, _ | ⟨z, A⟩⟩⟩ <;> first | exact trivial | exact min_ok ho hc hA hs hd hw

theorem op_ok (hcall : CallerSound sy G B w0 P call) (hs : SR sy G cx ρ env loc a) (hd : DRel sy ρ st.dfs a.defers) (hw : WRel sy G B w0 ρ st w) :
    OpRes sy G B w0 P ρ a o w ((opF P cx o.op).f call env loc st) := by
  cases ho : o.op <;> simp only [opF] <;> try exact trivial
  case move x => exact move_ok (.inl ho) hs hd hw
  case assign x => exact move_ok (.inr ho) hs hd hw
  case pick => exact pick_ok ho hs hd hw
  case alloc => exact alloc_ok ho hs hd hw
  case box => exact box_ok ho hs hd hw
  case build => exact build_ok ho hs hd hw
  case buildSlice => exact buildSlice_ok ho hs hd hw
  case load => exact load_ok ho hs hd hw
  case store => exact store_ok ho hs hd hw
  case nilCheck => exact nilCheck_ok ho hs hd hw
  case binOp => exact binOp_ok ho hs hd hw
  case unOp => exact unOp_ok ho hs hd hw
  case convert => exact convert_ok ho hs hd hw
  case slice t x lo hi mx =>
    cases mx with
    | none => exact sliceStr_ok ho hs hd hw
    | some m => unfold oSlice; split <;> first | exact trivial | (rename_i h; cases h)
  case fieldAddr => exact fieldAddr_ok ho hs hd hw
  case indexAddr => exact indexAddr_ok ho hs hd hw
  case index => exact index_ok ho hs hd hw
  case range => exact range_ok ho hs hd hw
  case next => exact next_ok ho hs hd hw
  case extract => exact extract_ok ho hs hd hw
  case field => exact field_ok ho hs hd hw
  case makeInterface => exact makeIface_ok ho hs hd hw
  case makeFunc => exact makeFunc_ok ho hs hd hw
  case typeAssert => exact assert_ok ho hs hd hw
  case panic => exact panic_ok ho hs hd hw
  case makeMap => exact makeMap_ok ho hs hd hw
  case makeSlice => exact makeSlice_ok ho hs hd hw
  case defer => exact defer_ok ho hs hd hw
  case insert => exact update_ok (.inr ho) hs hd hw
  case mapUpdate => exact update_ok (.inl ho) hs hd hw
  case lookup => exact lookup_ok ho hs hd hw
  case call c =>
    unfold oCall
    cases hc : c.callee with
    | value f => exact call_ok hcall ho hc hs hd hw
    | invoke r m => exact trivial
    | builtin b => exact builtin_ok ho hc hs hd hw

/-! ## Slots -/
theorem nth_setNth (x : CV) : ∀ (l : List CV) (k j : Nat), nth (setNth l x k) j = if j = k ∧ k < l.length then x else nth l j
  | [], k, j => by simp [show setNth [] x k = [] from rfl]
  | v :: l, 0, j => by
    rw [show setNth (v :: l) x 0 = x :: l from rfl]
    cases j with
    | zero => simp; rfl
    | succ j => simp; rfl
  | v :: l, k + 1, j => by
    rw [show setNth (v :: l) x (k + 1) = v :: setNth l x k from rfl]
    cases j with
    | zero => simp; rfl
    | succ j =>
      rw [show nth (v :: setNth l x k) (j + 1) = nth (setNth l x k) j from rfl, nth_setNth x l k j, show nth (v :: l) (j + 1) = nth l j from rfl]
      simp
theorem nth_ge : ∀ (l : List CV) (j : Nat), l.length ≤ j → nth l j = .unk
  | [], j, _ => rfl
  | v :: l, 0, h => by simp at h
  | v :: l, j + 1, h => by rw [show nth (v :: l) (j + 1) = nth l j from rfl]; exact nth_ge l j (by simpa using h)
theorem pos_inj : ∀ {vars : List Nat} {t u k : Nat}, pos vars t = some k → pos vars u = some k → t = u
  | [], _, _, _, h, _ => by cases h
  | x :: r, t, u, k, h1, h2 => by
    unfold pos at h1 h2
    cases e1 : Nat.beq x t with
    | true =>
      cases e2 : Nat.beq x u with
      | true => exact (Nat.eq_of_beq_eq_true e1).symm.trans (Nat.eq_of_beq_eq_true e2)
      | false =>
        rw [e1] at h1; rw [e2] at h2
        simp only [cond_true, cond_false] at h1 h2
        cases h1
        cases h3 : pos r u <;> rw [h3] at h2 <;> simp at h2
    | false =>
      rw [e1] at h1
      simp only [cond_false] at h1
      cases h3 : pos r t with
      | none => rw [h3] at h1; cases h1
      | some k1 =>
        rw [h3] at h1
        cases e2 : Nat.beq x u with
        | true =>
          rw [e2] at h2
          simp only [cond_true] at h1 h2
          cases h2; simp at h1
        | false =>
          rw [e2] at h2
          simp only [cond_false] at h1 h2
          cases h4 : pos r u with
          | none => rw [h4] at h2; cases h2
          | some k2 =>
            rw [h4] at h2
            simp only [Option.some.injEq] at h1 h2
            subst h1
            have : k1 = k2 := by omega
            subst this
            exact pos_inj h3 h4
theorem loc_look_cons (t u : Nat) (v : CV) (r : Loc) : (Loc.cons u v r).look t = bif Nat.beq u t then v else r.look t := by
  have e : (Loc.cons u v r).look t = (Bool.rec (motive := fun _ => CV) (r.look t) v (Nat.beq u t) : CV) := rfl
  rw [e]
  cases Nat.beq u t <;> rfl
theorem getD_set (a : Array Value) (d t : Nat) (v u : Value) (hd : d < a.size) : (a.setIfInBounds d v).getD t u = if t = d then v else a.getD t u := by
  by_cases h : t = d
  · subst h; simp [hd]
  · rw [if_neg h]
    simp [Ne.symm h]

theorem SR.drop (h : SR sy G cx ρ env loc a) : SR sy G cx ρ env .nil a := ⟨h.ng, h.size, fun t => by
  have := h.slot t
  unfold look at *
  split
  · rename_i k hk; rw [hk] at this; exact this
  · show VRel sy ρ .unk _; simp [VRel]⟩

theorem put_rel {v : CV} {v' : Value} {d : Option Nat} {K : List CV → Loc → St → R} (hs : SR sy G cx ρ env loc a) (hv : VRel sy ρ v v') {e : Ex} {env2 : List CV} {st2 : St}
    (hr : (put cx d).f v env loc K st = .ok e env2 st2) : ∃ env1 loc1, K env1 loc1 st = .ok e env2 st2 ∧ SR sy G cx ρ env1 loc1 (a.put d v') := by
  unfold put at hr
  cases d with
  | none => exact ⟨env, loc, hr, hs⟩
  | some t =>
    simp only at hr
    cases hb : Nat.blt t cx.nt with
    | false => rw [hb] at hr; cases hr
    | true =>
      have hlt : t < a.tmps.size := Nat.lt_of_lt_of_le (by simpa [Nat.blt_eq] using hb) hs.size
      rw [hb] at hr
      simp only [putAt] at hr
      have hslot : ∀ u, (a.put (some t) v').tmps.getD u undef = if u = t then v' else a.tmps.getD u undef := fun u => getD_set _ _ _ _ _ hlt
      cases hp : pos cx.vars t with
      | some k =>
        rw [hp] at hr
        refine ⟨_, _, hr, hs.ng, by simp [Act.put]; exact hs.size, fun u => ?_⟩
        rw [hslot]
        have hu := hs.slot u
        unfold look at hu ⊢
        cases hpu : pos cx.vars u with
        | none =>
          rw [hpu] at hu
          have hne : u ≠ t := fun e => by subst e; rw [hp] at hpu; cases hpu
          rw [if_neg hne]; exact hu
        | some j =>
          rw [hpu] at hu
          simp only at hu ⊢
          rw [nth_setNth]
          by_cases hut : u = t
          · subst hut
            rw [hp] at hpu; cases hpu
            rw [if_pos rfl]
            by_cases hk : k < env.length
            · rw [if_pos ⟨rfl, hk⟩]; exact hv
            · rw [if_neg (by omega), nth_ge env k (by omega)]; simp [VRel]
          · rw [if_neg hut]
            have hjk : j ≠ k := fun e => by subst e; exact hut (pos_inj hpu hp)
            rw [if_neg (by omega)]; exact hu
      | none =>
        rw [hp] at hr
        refine ⟨_, _, hr, hs.ng, by simp [Act.put]; exact hs.size, fun u => ?_⟩
        rw [hslot]
        have hu := hs.slot u
        unfold look at hu ⊢
        cases hpu : pos cx.vars u with
        | some j =>
          rw [hpu] at hu
          have hne : u ≠ t := fun e => by subst e; rw [hp] at hpu; cases hpu
          rw [if_neg hne]; exact hu
        | none =>
          rw [hpu] at hu
          simp only at hu ⊢
          rw [loc_look_cons]
          by_cases hut : u = t
          · subst hut
            rw [if_pos rfl, show Nat.beq u u = true from Nat.beq_refl u]; exact hv
          · rw [if_neg hut]
            have : Nat.beq t u = false := by
              cases hx : Nat.beq t u with
              | false => rfl
              | true => exact absurd (Nat.eq_of_beq_eq_true hx).symm hut
            rw [this]; exact hu
end
end Go.Proofs.YtbmbjaogcmokoaaGreatDoorX
