/- Operations: calls that are put off. Regions, code, calls: what the executor says, the model does. A range over a function of which no round is run; functions that leave with marks among their deferred calls. Values that are put into slots; what is known less. Operations that read: they leave the state as it is. Regions and code, functions: what the executor says, the model does. Loops that look through a map: whatever the order, the end is the same. -/
import Derived.Test.YtbmbjaogcmokoaaGreatDoorX4
import Derived.Scope
import Derived.RangeFuncIn
import Derived.RangeFuncLeaves
namespace Go.Proofs.YtbmbjaogcmokoaaGreatDoorX
open Go Go.RowKit
set_option linter.unusedVariables false

section
variable {sy : Sy} {G : Nat} {B : Kp} {w0 : World} {P : Program} {ρ ρ' : Ren} {cx : Cx} {env : List CV} {loc : Loc} {a : Act} {st st' : St} {w w' : World} {o : Oper} {call : Caller}

theorem defer_ok {c : Call} (ho : o.op = .defer c) (hs : SR sy G cx ρ env loc a) (hd : DRel sy ρ st.dfs a.defers) (hw : WRel sy G B w0 ρ st w) :
    OpRes sy G B w0 P ρ a o w ((oDefer cx c).f call env loc st) := by
  unfold oDefer
  cases hc : c.callee with
  | builtin b => exact trivial
  | invoke r m => exact trivial
  | value f =>
    have hf := evRel hs hw f
    have hargs := evsRel hs hw c.args.toList
    simp only
    generalize (ev cx f).f env loc = vf at *
    cases vf <;> try exact trivial
    rename_i fn fi ca
    simp only
    cases fn <;> try exact trivial
    rename_i g
    obtain ⟨h, n, d⟩ := st
    simp only
    simp only [VRel] at hf
    obtain ⟨fi', ca', e, h1, h2⟩ := hf
    intro next Q hk
    unfold Oper.wp
    have hrun : (execOp a.eval o).run P w = .ok (.defer { target := .fn (.func g) (List.toArray ca'), args := List.toArray fi' ++ List.toArray (c.args.toList.map a.eval) }) w := by
      simp only [execOp, ho, resolve, hc, Sem.run_bind, Result.andThen, e, Deferred.ofValue, Sem.run_pure]
      congr 3
      rw [show Array.map a.eval c.args = (List.map a.eval c.args.toList).toArray from Array.toList_inj.1 (by simp)]
    rw [hrun]
    refine hk ρ undef w _ (Ren.le_refl _) (by simp only [VRel]; exact ⟨[], rfl, VRels.nil⟩) hw.dfs ?_
    simp only [DRel]
    exact ⟨_, _, rfl, .inr ⟨g, fi, ca, fi', ca', _, rfl, h1, h2, hargs, rfl⟩, hd⟩
end
end Go.Proofs.YtbmbjaogcmokoaaGreatDoorX

namespace Go.Proofs.YtbmbjaogcmokoaaGreatDoorX
open Go Go.RowKit
set_option linter.unusedVariables false

section
variable (sy : Sy) (G : Nat) (B : Kp) (w0 : World) (P : Program)

def RetOk (ρ : Ren) (f : Nat) (args' : List Value) (st : St) (w : World) : RV → Prop
  | .err _ => True
  | .ok v st' => st'.dfs = st.dfs ∧ Calls P f args'.toArray w fun e w' => ∃ ρ' v', e = .returned v' ∧ ρ.le ρ' ∧ VRel sy ρ' v v' ∧ WRel sy G B w0 ρ' st' w'
  | .pan v st' => st'.dfs = st.dfs ∧ Calls P f args'.toArray w fun e w' => ∃ ρ' v', e = .panicked [⟨v', false, false⟩] ∧ ρ.le ρ' ∧ VRel sy ρ' v v' ∧ WRel sy G B w0 ρ' st' w'
def CallerSound (call : Caller) : Prop :=
  ∀ f args st ρ w args', VRels sy ρ args args' → WRel sy G B w0 ρ st w → enters P f = true → RetOk sy G B w0 P ρ f args' st w (call f args st)

def ExRel (ρ : Ren) : Ex → Exit → Prop
  | .normal, e => e = .normal
  | .exit id, e => e = .exit id
  | .ret, e => e = .ret
  | .panic v, e => ∃ v', e = .panic [⟨v', false, false⟩] ∧ VRel sy ρ v v'

def PostC (cx : Cx) (ρ : Ren) (e : Ex) (env : List CV) (st : St) : Exit → Act → World → Prop := fun e' a' w' =>
  ∃ ρ', ρ.le ρ' ∧ ExRel sy ρ' e e' ∧ SR sy G cx ρ' env .nil a' ∧ DRel sy ρ' st.dfs a'.defers ∧ WRel sy G B w0 ρ' st w'
end

section
variable {sy : Sy} {G : Nat} {B : Kp} {w0 : World} {P : Program} {ρ ρ' : Ren} {cx : Cx} {env env' : List CV} {loc : Loc} {a : Act} {st st' : St} {w w' : World} {o : Oper} {call : Caller} {ex : Ex}

theorem ExRel.mono (h : ρ.le ρ') {e : Ex} {e' : Exit} (k : ExRel sy ρ e e') : ExRel sy ρ' e e' := by
  cases e <;> try exact k
  obtain ⟨v', h1, h2⟩ := k
  exact ⟨v', h1, h2.mono sy h⟩
theorem PostC.mono (h : ρ.le ρ') {e : Ex} {e' : Exit} {a' : Act} {w' : World} (k : PostC sy G B w0 cx ρ' e env st e' a' w') : PostC sy G B w0 cx ρ e env st e' a' w' := by
  obtain ⟨ρ2, h1, h2⟩ := k
  exact ⟨ρ2, Ren.le_trans h h1, h2⟩

/-! ## Calls as operations -/
theorem enters_run {g : Nat} (h : enters P g = true) (args : Array Value) (w : World) : (callFunc g args).run P w = .ok (.enter g args) w := by
  unfold enters at h
  cases hf : P.funcs[g]? with
  | none => rw [hf] at h; cases h
  | some fn =>
    rw [hf] at h
    simp only at h
    cases hb : fn.body with
    | none => rw [hb] at h; cases h
    | some c =>
      rw [hb] at h
      have hn : (fn.name == "runtime.NumGoroutine") = false := by simpa using h
      simp [callFunc, hf, hb]
      intro e
      rw [e] at hn
      simp at hn

theorem call_ok {c : Call} {f : Operand} (hcall : CallerSound sy G B w0 P call) (ho : o.op = .call c) (hc : c.callee = .value f) (hs : SR sy G cx ρ env loc a) (hd : DRel sy ρ st.dfs a.defers) (hw : WRel sy G B w0 ρ st w) :
    OpRes sy G B w0 P ρ a o w (callV P ((ev cx f).f env loc) ((evs cx c.args.toList).f env loc) call st) := by
  have hf := evRel hs hw f
  have hargs := evsRel hs hw c.args.toList
  unfold callV
  generalize (ev cx f).f env loc = vf at *
  cases vf <;> try exact trivial
  rename_i fn fi ca
  simp only
  cases fn <;> try exact trivial
  rename_i g
  simp only [VRel] at hf
  obtain ⟨fi', ca', e, h1, h2⟩ := hf
  simp only [callG]
  cases hen : enters P g with
  | false =>
    simp only
    have hall := (h1.append hargs).append h2
    generalize hr : externF (externId P g) (fi ++ (evs cx c.args.toList).f env loc ++ ca) st = r
    rcases extern_ok hw hall hr with ⟨k, rfl⟩ | ⟨v, v', st1, w1, rfl, hdf, hv, hw1, hrun⟩
    · exact trivial
    · refine ok_val (v' := v') (w' := w1) ?_ (Ren.le_refl _) hv hw1 (by rw [hdf]; exact hd)
      simp only [execOp, ho, resolve, hc, Sem.run_bind, Result.andThen, e, Deferred.ofValue, Sem.run_pure, invoke]
      rw [← hrun]
      congr 2
      simp
  | true =>
    simp only
    have hall := (h1.append hargs).append h2
    have hret := hcall g _ st ρ w _ hall hw hen
    generalize call g (fi ++ (evs cx c.args.toList).f env loc ++ ca) st = r at *
    have hrun : (execOp a.eval o).run P w = .ok (.enter g (fi' ++ List.map a.eval c.args.toList ++ ca').toArray) w := by
      simp only [execOp, ho, resolve, hc, Sem.run_bind, Result.andThen, e, Deferred.ofValue, Sem.run_pure, invoke]
      rw [enters_run hen]
      congr 2
      simp
    cases r with
    | err n => exact trivial
    | ok v st' =>
      obtain ⟨hd', hcalls⟩ := hret
      intro next Q h
      unfold Oper.wp
      rw [hrun]
      refine Calls.mono hcalls fun e w' ⟨ρ', v', he, hle, hv, hw'⟩ => ?_
      subst he
      exact h ρ' v' w' a.defers hle hv hw' (by rw [hd']; exact hd.mono hle)
    | pan v st' =>
      obtain ⟨hd', hcalls⟩ := hret
      intro next Q h
      unfold Oper.wp
      rw [hrun]
      refine Calls.mono hcalls fun e w' ⟨ρ', v', he, hle, hv, hw'⟩ => ?_
      subst he
      exact h ρ' v' w' hle hv hw' (by rw [hd']; exact hd.mono hle)

theorem builtin_ok {c : Call} {b : Builtin} (ho : o.op = .call c) (hc : c.callee = .builtin b) (hs : SR sy G cx ρ env loc a) (hd : DRel sy ρ st.dfs a.defers) (hw : WRel sy G B w0 ρ st w) :
    OpRes sy G B w0 P ρ a o w ((oBuiltin P cx b c.args.toList c.argTypes.toList).f call env loc st) := by
  cases b <;> try exact trivial
  case len =>
    generalize hA : c.args.toList = A
    generalize hT : c.argTypes.toList = T
    rcases A with _ | ⟨x, _ | ⟨y, A⟩⟩ <;> rcases T with _ | ⟨t, _ | ⟨t2, T⟩⟩ <;> first | exact trivial | exact len_ok ho hc hA hT hs hd hw
  case append =>
    generalize hA : c.args.toList = A
    generalize hT : c.argTypes.toList = T
    rcases A with _ | ⟨x, _ | ⟨y, _ | ⟨z, A⟩⟩⟩ <;> rcases T with _ | ⟨t, _ | ⟨t2, _ | ⟨t3, T⟩⟩⟩ <;> first | exact trivial | exact append_ok ho hc hA hT hs hd hw
  case delete =>
    generalize hA : c.args.toList = A
    generalize hT : c.argTypes.toList = T
    rcases A with _ | ⟨x, _ | ⟨y, _ | ⟨z, A⟩⟩⟩ <;> rcases T with _ | ⟨t, _ | ⟨t2, _ | ⟨t3, T⟩⟩⟩ <;> first | exact trivial | exact delete_ok ho hc hA hT hs hd hw
  case unsafeSliceData =>
    generalize hA : c.args.toList = A
    rcases A with _ | ⟨x, _ | ⟨y, A⟩⟩ <;> first | exact trivial | exact sliceData_ok ho hc hA hs hd hw
  case unsafeString =>
    generalize hA : c.args.toList = A
    generalize hT : c.argTypes.toList = T
    rcases A with _ | ⟨x, _ | ⟨y, _ | ⟨z, A⟩⟩⟩ <;> rcases T with _ | ⟨t, _ | ⟨t2, _ | ⟨t3, T⟩⟩⟩ <;> try exact trivial
    unfold oBuiltin
    simp only
    cases he : bytePtr P t with
    | none => exact trivial
    | some e => exact unsafeStr_ok ho hc hA hT he hs hd hw
  case max =>
    generalize hA : c.args.toList = A
    rcases A with _ | ⟨x, _ | ⟨y, _ | ⟨z, A⟩⟩⟩ <;> first | exact trivial | exact max_ok ho hc hA hs hd hw
  case min =>
    generalize hA : c.args.toList = A
    rcases A with _ | ⟨x, _ | ⟨y, _ | ⟨z, A⟩⟩⟩ <;> first | exact trivial | exact min_ok ho hc hA hs hd hw

theorem op_ok (hcall : CallerSound sy G B w0 P call) (hs : SR sy G cx ρ env loc a) (hd : DRel sy ρ st.dfs a.defers) (hw : WRel sy G B w0 ρ st w) :
    OpRes sy G B w0 P ρ a o w ((opF P cx o.op).f call env loc st) := by
  cases ho : o.op <;> simp only [opF] <;> try exact trivial
  case move x => exact move_ok (.inl ho) hs hd hw
  case assign x => exact move_ok (.inr ho) hs hd hw
  case pick => exact pick_ok ho hs hd hw
  case alloc => exact alloc_ok ho hs hd hw
  case box => exact box_ok ho hs hd hw
  case build => exact build_ok ho hs hd hw
  case buildSlice => exact buildSlice_ok ho hs hd hw
  case load => exact load_ok ho hs hd hw
  case store => exact store_ok ho hs hd hw
  case nilCheck => exact nilCheck_ok ho hs hd hw
  case binOp => exact binOp_ok ho hs hd hw
  case unOp => exact unOp_ok ho hs hd hw
  case convert => exact convert_ok ho hs hd hw
  case slice t x lo hi mx =>
    cases mx with
    | none => exact sliceStr_ok ho hs hd hw
    | some m => unfold oSlice; split <;> first | exact trivial | (rename_i h; cases h)
  case fieldAddr => exact fieldAddr_ok ho hs hd hw
  case indexAddr => exact indexAddr_ok ho hs hd hw
  case index => exact index_ok ho hs hd hw
  case range => exact range_ok ho hs hd hw
  case next => exact next_ok ho hs hd hw
  case extract => exact extract_ok ho hs hd hw
  case field => exact field_ok ho hs hd hw
  case makeInterface => exact makeIface_ok ho hs hd hw
  case makeFunc => exact makeFunc_ok ho hs hd hw
  case typeAssert => exact assert_ok ho hs hd hw
  case panic => exact panic_ok ho hs hd hw
  case makeMap => exact makeMap_ok ho hs hd hw
  case makeSlice => exact makeSlice_ok ho hs hd hw
  case defer => exact defer_ok ho hs hd hw
  case insert => exact update_ok (.inr ho) hs hd hw
  case mapUpdate => exact update_ok (.inl ho) hs hd hw
  case lookup => exact lookup_ok ho hs hd hw
  case call c =>
    unfold oCall
    cases hc : c.callee with
    | value f => exact call_ok hcall ho hc hs hd hw
    | invoke r m => exact trivial
    | builtin b => exact builtin_ok ho hc hs hd hw

/-! ## Slots -/
theorem nth_setNth (x : CV) : ∀ (l : List CV) (k j : Nat), nth (setNth l x k) j = if j = k ∧ k < l.length then x else nth l j
  | [], k, j => by simp [show setNth [] x k = [] from rfl]
  | v :: l, 0, j => by
    rw [show setNth (v :: l) x 0 = x :: l from rfl]
    cases j with
    | zero => simp; rfl
    | succ j => simp; rfl
  | v :: l, k + 1, j => by
    rw [show setNth (v :: l) x (k + 1) = v :: setNth l x k from rfl]
    cases j with
    | zero => simp; rfl
    | succ j =>
      rw [show nth (v :: setNth l x k) (j + 1) = nth (setNth l x k) j from rfl, nth_setNth x l k j, show nth (v :: l) (j + 1) = nth l j from rfl]
      simp
theorem nth_ge : ∀ (l : List CV) (j : Nat), l.length ≤ j → nth l j = .unk
  | [], j, _ => rfl
  | v :: l, 0, h => by simp at h
  | v :: l, j + 1, h => by rw [show nth (v :: l) (j + 1) = nth l j from rfl]; exact nth_ge l j (by simpa using h)
theorem pos_inj : ∀ {vars : List Nat} {t u k : Nat}, pos vars t = some k → pos vars u = some k → t = u
  | [], _, _, _, h, _ => by cases h
  | x :: r, t, u, k, h1, h2 => by
    unfold pos at h1 h2
    cases e1 : Nat.beq x t with
    | true =>
      cases e2 : Nat.beq x u with
      | true => exact (Nat.eq_of_beq_eq_true e1).symm.trans (Nat.eq_of_beq_eq_true e2)
      | false =>
        rw [e1] at h1; rw [e2] at h2
        simp only [cond_true, cond_false] at h1 h2
        cases h1
        cases h3 : pos r u <;> rw [h3] at h2 <;> simp at h2
    | false =>
      rw [e1] at h1
      simp only [cond_false] at h1
      cases h3 : pos r t with
      | none => rw [h3] at h1; cases h1
      | some k1 =>
        rw [h3] at h1
        cases e2 : Nat.beq x u with
        | true =>
          rw [e2] at h2
          simp only [cond_true] at h1 h2
          cases h2; simp at h1
        | false =>
          rw [e2] at h2
          simp only [cond_false] at h1 h2
          cases h4 : pos r u with
          | none => rw [h4] at h2; cases h2
          | some k2 =>
            rw [h4] at h2
            simp only [Option.some.injEq] at h1 h2
            subst h1
            have : k1 = k2 := by omega
            subst this
            exact pos_inj h3 h4
theorem loc_look_cons (t u : Nat) (v : CV) (r : Loc) : (Loc.cons u v r).look t = bif Nat.beq u t then v else r.look t := by
  have e : (Loc.cons u v r).look t = (Bool.rec (motive := fun _ => CV) (r.look t) v (Nat.beq u t) : CV) := rfl
  rw [e]
  cases Nat.beq u t <;> rfl
theorem getD_set (a : Array Value) (d t : Nat) (v u : Value) (hd : d < a.size) : (a.setIfInBounds d v).getD t u = if t = d then v else a.getD t u := by
  by_cases h : t = d
  · subst h; simp [hd]
  · rw [if_neg h]
    simp [Ne.symm h]

theorem SR.drop (h : SR sy G cx ρ env loc a) : SR sy G cx ρ env .nil a := ⟨h.ng, h.size, fun t => by
  have := h.slot t
  unfold look at *
  split
  · rename_i k hk; rw [hk] at this; exact this
  · show VRel sy ρ .unk _; simp [VRel]⟩

theorem put_rel {v : CV} {v' : Value} {d : Option Nat} {K : List CV → Loc → St → R} (hs : SR sy G cx ρ env loc a) (hv : VRel sy ρ v v') {e : Ex} {env2 : List CV} {st2 : St}
    (hr : (put cx d).f v env loc K st = .ok e env2 st2) : ∃ env1 loc1, K env1 loc1 st = .ok e env2 st2 ∧ SR sy G cx ρ env1 loc1 (a.put d v') := by
  unfold put at hr
  cases d with
  | none => exact ⟨env, loc, hr, hs⟩
  | some t =>
    simp only at hr
    cases hb : Nat.blt t cx.nt with
    | false => rw [hb] at hr; cases hr
    | true =>
      have hlt : t < a.tmps.size := Nat.lt_of_lt_of_le (by simpa [Nat.blt_eq] using hb) hs.size
      rw [hb] at hr
      simp only [putAt] at hr
      have hslot : ∀ u, (a.put (some t) v').tmps.getD u undef = if u = t then v' else a.tmps.getD u undef := fun u => getD_set _ _ _ _ _ hlt
      cases hp : pos cx.vars t with
      | some k =>
        rw [hp] at hr
        refine ⟨_, _, hr, hs.ng, by simp [Act.put]; exact hs.size, fun u => ?_⟩
        rw [hslot]
        have hu := hs.slot u
        unfold look at hu ⊢
        cases hpu : pos cx.vars u with
        | none =>
          rw [hpu] at hu
          have hne : u ≠ t := fun e => by subst e; rw [hp] at hpu; cases hpu
          rw [if_neg hne]; exact hu
        | some j =>
          rw [hpu] at hu
          simp only at hu ⊢
          rw [nth_setNth]
          by_cases hut : u = t
          · subst hut
            rw [hp] at hpu; cases hpu
            rw [if_pos rfl]
            by_cases hk : k < env.length
            · rw [if_pos ⟨rfl, hk⟩]; exact hv
            · rw [if_neg (by omega), nth_ge env k (by omega)]; simp [VRel]
          · rw [if_neg hut]
            have hjk : j ≠ k := fun e => by subst e; exact hut (pos_inj hpu hp)
            rw [if_neg (by omega)]; exact hu
      | none =>
        rw [hp] at hr
        refine ⟨_, _, hr, hs.ng, by simp [Act.put]; exact hs.size, fun u => ?_⟩
        rw [hslot]
        have hu := hs.slot u
        unfold look at hu ⊢
        cases hpu : pos cx.vars u with
        | some j =>
          rw [hpu] at hu
          have hne : u ≠ t := fun e => by subst e; rw [hp] at hpu; cases hpu
          rw [if_neg hne]; exact hu
        | none =>
          rw [hpu] at hu
          simp only at hu ⊢
          rw [loc_look_cons]
          by_cases hut : u = t
          · subst hut
            rw [if_pos rfl, show Nat.beq u u = true from Nat.beq_refl u]; exact hv
          · rw [if_neg hut]
            have : Nat.beq t u = false := by
              cases hx : Nat.beq t u with
              | false => rfl
              | true => exact absurd (Nat.eq_of_beq_eq_true hx).symm hut
            rw [this]; exact hu
end
end Go.Proofs.YtbmbjaogcmokoaaGreatDoorX

namespace Go.Proofs.YtbmbjaogcmokoaaGreatDoorX
open Go Go.RowKit
set_option linter.unusedVariables false

section
variable {P : Program}

theorem atR_at (b : Frame) (a : Act) (k : List Item) : ({ b with roundOf := none } : Frame).atR a k = b.at a k := by simp [Frame.atR, Frame.at]

/-- the statement: its record is laid; the function returns, and the record is as it was -/
theorem wp_rangeFunc {g : Operand} {ps : Array Tmp} {assign body : Code} {Q : Exit → Act → World → Prop} {a : Act} {w : World}
    (h : ∀ fn : FuncId, ∃ (l : Nat) (mark : List Deferred) (w₁ : World) (d : Deferred) (w₁' : World) (f : FuncId) (args : Array Value) (w₂ : World),
      (Instr.enterLoop fn a.tmps ps assign body none).run P w = .ok (l, mark) w₁ ∧ (resolve a.eval (rangeCall g l) 0).run P w₁ = .ok d w₁' ∧ (invoke d.target d.args).run P w₁' = .ok (.enter f args) w₂ ∧
      Calls P f args w₂ fun e w₃ => ∃ v w₄, e = .returned v ∧ (Instr.endLoop l).run P w₃ = .ok none w₄ ∧ Q .normal { a with defers := mark ++ a.defers } w₄) :
    (Code.rangeFunc g ps assign body).wp P Q a w := by
  intro b k cs
  obtain ⟨l, mark, w₁, d, w₁', f, args, w₂, he, hres, hinv, hcall⟩ := h b.fn
  have henter := stepR_rangeFunc (P := P) (b := { b with roundOf := none }) (a := a) (k := k) (cs := cs) (w := w) he hres hinv
  rw [atR_at, atR_at] at henter
  obtain ⟨e, w₃, fr, ⟨v, w₄, rfl, hend, hQ⟩, hsteps, hfn, hleave⟩ := hcall (b.at { a with defers := mark ++ a.defers } (.inRangeFunc l :: k) :: cs)
  refine ⟨.normal, _, w₄, hQ, ?_⟩
  have h1 := step_leave_returned (c := b.at { a with defers := mark ++ a.defers } (.inRangeFunc l :: k)) (cs := cs) hleave
  have hfin : (b.at { a with defers := mark ++ a.defers } (.inRangeFunc l :: k)).finish v = b.at { a with defers := mark ++ a.defers } (.endRangeFunc l :: k) := by
    simp [Frame.finish, Frame.at]
  rw [hfin] at h1
  have h2 := stepR_endRangeFunc (P := P) (b := { b with roundOf := none }) (a := { a with defers := mark ++ a.defers }) (k := k) (cs := cs) hend
  rw [atR_at, atR_at] at h2
  exact .head henter (Steps.trans hsteps (.head h1 (.one h2)))

/-- 'Leaves' with marks -/
def LeavesM (P : Program) (fn : Func) (tmps : Array Value) (R : Ending → World → Prop) : List Deferred → FrameMode → World → Prop
  | [], u, w => Leaves P fn tmps R [] u w
  | d :: ds, u, w => u ≠ .run ∧
      ((∃ r w', d.target = .collected r ∧ (Instr.takeDeferred r).run P w = .ok [] w' ∧ LeavesM P fn tmps R ds u w') ∨
       ∃ fv cap f args, d.target = .fn fv cap ∧ (invoke d.target d.args).run P w = .ok (.enter f args) w ∧
        CallsD P f args u w fun
          | .returned _, u', w' => LeavesM P fn tmps R ds (settle u') w'
          | .panicked chain, u', w' => LeavesM P fn tmps R ds (raised u' chain) w'
          | .outgrown, _, w' => R .outgrown w')

theorem leaves_stepsM {fn : Func} {tmps : Array Value} {R : Ending → World → Prop} : ∀ (ds : List Deferred) (u : FrameMode) (w : World) (fr : Frame)
    (cs : List Frame), fr.mode = u → fr.defers = ds → fr.tmps = tmps → P.funcs[fr.fn]? = some fn → fr.kind = .normal → LeavesM P fn tmps R ds u w →
    ∃ e w' fr', R e w' ∧ Comes P (lone fr cs w) (lone fr' cs w') e ∧ fr'.fn = fr.fn ∧ fr'.leaving P w' e := by
  intro ds
  induction ds with
  | nil => exact fun u w fr cs hu hd ht hf hk h => leaves_steps [] u w fr cs hu hd ht hf hk h
  | cons d ds ih =>
    intro u w fr cs hu hd ht hf hk h
    obtain ⟨hrun, h⟩ := h
    rcases h with ⟨r, w', htar, htake, hrest⟩ | ⟨fv, cap, f, args, htar, hinv, hcall⟩
    · have h1 := step_collected (cs := cs) (hu ▸ hrun) hd htar htake
      obtain ⟨e', w'', fr', hR', hs', hfn', hl'⟩ := ih u w' { fr with defers := [] ++ ds } cs hu rfl ht hf hk hrest
      exact ⟨e', w'', fr', hR', Comes.of_steps (.one h1) hs', hfn', hl'⟩
    · have h1 := step_defer (cs := cs) (hu ▸ hrun) hd htar hinv
      obtain ⟨e, u', w', frX, hR, hsteps, hkX, hgo⟩ := hcall { fr with defers := ds } cs hu
      cases e with
      | returned v =>
        have h2 := step_going_returned (c := { { fr with defers := ds } with mode := u' }) (cs := cs) hkX hgo
        obtain ⟨e', w'', fr', hR', hs', hfn', hl'⟩ := ih (settle u') w' { { { fr with defers := ds } with mode := u' } with mode := settle u' } cs rfl rfl ht hf hk hR
        exact ⟨e', w'', fr', hR', Comes.of_steps (.head h1 (Steps.trans hsteps (.one h2))) hs', hfn', hl'⟩
      | panicked chain =>
        have h2 := step_going_panicked (c := { { fr with defers := ds } with mode := u' }) (cs := cs) hgo
        obtain ⟨e', w'', fr', hR', hs', hfn', hl'⟩ := ih (raised u' chain) w' { { { fr with defers := ds } with mode := u' } with mode := raised u' chain } cs rfl rfl ht hf hk hR
        exact ⟨e', w'', fr', hR', Comes.of_steps (.head h1 (Steps.trans hsteps (.one h2))) hs', hfn', hl'⟩
      | outgrown => exact ⟨.outgrown, w', fr, hR, Outgrown.of_steps (.one h1) hsteps, rfl, trivial⟩

def bodyPostM (P : Program) (fn : Func) (R : Ending → World → Prop) : Exit → Act → World → Prop
  | .normal, a, w | .ret, a, w => LeavesM P fn a.tmps R a.defers .returning w
  | .panic chain, a, w => LeavesM P fn a.tmps R a.defers (.panicking chain) w
  | .outgrown, _, w => R .outgrown w
  | _, _, _ => False

theorem calls_of_wp_marks {f : FuncId} {fn : Func} {c : Code} {args : Array Value} {w : World} {R : Ending → World → Prop}
    (hf : P.funcs[f]? = some fn) (hb : fn.body = some c)
    (h : c.wp P (bodyPostM P fn R) { tmps := args ++ Array.replicate (fn.ntmps - args.size) undef, defers := [] } w) : Calls P f args w R := by
  intro cs
  let b : Frame := { (default : Frame) with fn := f, kind := .normal }
  have henter : Frame.enter P f args .normal =
      b.at { tmps := args ++ Array.replicate (fn.ntmps - args.size) undef, defers := [] } [.code c] := by
    simp [Frame.enter, Frame.at, hf, hb, b]
  obtain ⟨e, a', w', hq, harr⟩ := h b [] cs
  rw [← henter] at harr
  cases e with
  | normal =>
    obtain ⟨e', w'', fr', hR, hs, hfn, hl⟩ := leaves_stepsM a'.defers .returning w' { b.at a' [] with mode := .returning } cs rfl rfl rfl hf rfl hq
    exact ⟨e', w'', fr', hR, Comes.of_steps (Steps.trans harr (.one step_end)) hs, hfn, hl⟩
  | ret =>
    obtain ⟨todo, hs₀⟩ := harr
    obtain ⟨e', w'', fr', hR, hs, hfn, hl⟩ := leaves_stepsM a'.defers .returning w' { b.at a' todo with mode := .returning } cs rfl rfl rfl hf rfl hq
    exact ⟨e', w'', fr', hR, Comes.of_steps hs₀ hs, hfn, hl⟩
  | panic chain =>
    obtain ⟨todo, hs₀⟩ := harr
    obtain ⟨e', w'', fr', hR, hs, hfn, hl⟩ := leaves_stepsM a'.defers (.panicking chain) w' { b.at a' todo with mode := .panicking chain } cs rfl rfl rfl hf rfl hq
    exact ⟨e', w'', fr', hR, Comes.of_steps hs₀ hs, hfn, hl⟩
  | exit id => exact hq.elim
  | goto l => exact hq.elim
  | outgrown => exact ⟨.outgrown, w', b, hq, harr.resolve_left (by simp [b]), rfl, trivial⟩
end

section
variable {sy : Sy} {G : Nat} {B : Kp} {w0 : World} {P : Program} {ρ ρ' : Ren} {cx : Cx} {env env2 : List CV} {loc : Loc} {a : Act} {st st2 : St} {w w' : World} {o : Oper} {call : Caller} {e : Ex}

/-- the statement, where no round is run -/
theorem rangeFunc_ok {f : Operand} {ps : Array Tmp} {assign body : Code} (hall : ∀ B w0, CallerSound sy G B w0 P call) (hr : (den P cx (.rangeFunc f ps assign body)).f call env st = .ok e env2 st2)
    (hs : SR sy G cx ρ env .nil a) (hd : DRel sy ρ st.dfs a.defers) (hw : WRel sy G B w0 ρ st w) :
    (Code.rangeFunc f ps assign body).wp P (fun e' a' w' => ∃ ρ', ρ.le ρ' ∧ e = .normal ∧ e' = .normal ∧ SR sy G cx ρ' env2 .nil a' ∧ DRel sy ρ' st2.dfs a'.defers ∧ WRel sy G B w0 ρ' st2 w') a w := by
  have hf := evRel hs hw f
  have hr' : (match (ev cx f).f env .nil with
    | .func fn fi ca => match fn with
      | .func g => match enters P g with
        | true => match st with
          | ⟨h, nx, d⟩ => forceN (fun nx' => match call g (fi ++ (.unk :: ca)) ⟨T.set h .coll nx, nx', ⟨.ptr nx 0, []⟩ :: d⟩ with
            | .ok _ st => .ok .normal env st
            | .pan _ _ => .err 291
            | .err n => .err n) (Nat.succ nx)
        | false => .err 292
      | _ => .err 293
    | _ => .err 294) = R.ok e env2 st2 := hr
  generalize (ev cx f).f env .nil = vf at *
  cases vf <;> simp only at hr' <;> try (cases hr'; done)
  rename_i fn fi ca
  cases fn <;> simp only at hr' <;> try (cases hr'; done)
  rename_i g
  cases hen : enters P g with
  | false => rw [hen] at hr'; cases hr'
  | true =>
    rw [hen] at hr'
    obtain ⟨h, nx, d⟩ := st
    simp only [forceN_eq] at hr'
    simp only [VRel] at hf
    obtain ⟨fi', ca', ef, h1, h2⟩ := hf
    refine wp_rangeFunc fun fn => ?_
    let rec_ : Loop := { state := .ready, pending := none, fn, tmps := a.tmps, params := ps, assign, body, defers := w.heap.size }
    have hw1 : WRel sy G B w0 (ρ.put nx ⟨w.heap.size, 0, 0, 0⟩) ⟨T.set h .coll nx, nx + 1, d⟩ (w.alloc (.deferred (some []))) :=
      hw.new rfl ⟨_, Ren.put_same _ _ _, hw.over, rfl, alloc_heap _ _⟩
    have hw2 := hw1.aside (O := .loop rec_)
    have hle := Ren.le_put (i := ⟨w.heap.size, 0, 0, 0⟩) hw.fresh
    have hargs : VRels sy (ρ.put nx ⟨w.heap.size, 0, 0, 0⟩) (fi ++ (.unk :: ca)) (fi' ++ (.func (.yield (w.heap.size + 1)) #[] #[] :: ca')) :=
      (h1.mono sy hle).append (VRels.cons (by simp [VRel]) (h2.mono sy hle))
    have hret := hall _ _ g _ ⟨T.set h .coll nx, nx + 1, ⟨.ptr nx 0, []⟩ :: d⟩ _ _ _ hargs hw2.dfs hen
    refine ⟨w.heap.size + 1, [{ target := .collected w.heap.size, args := #[] }], (w.alloc (.deferred (some []))).alloc (.loop rec_), { target := .fn (.func g) ca'.toArray, args := (fi' ++ [Value.func (.yield (w.heap.size + 1)) #[] #[]]).toArray },
      (w.alloc (.deferred (some []))).alloc (.loop rec_), g, (fi' ++ (.func (.yield (w.heap.size + 1)) #[] #[] :: ca')).toArray, (w.alloc (.deferred (some []))).alloc (.loop rec_), ?_, ?_, ?_, ?_⟩
    · simp [Instr.enterLoop, rec_]
    · simp only [resolve, ef, Deferred.ofValue, Sem.run_pure]
      congr 2
      simp [Act.eval]
    · simp only [invoke]
      rw [enters_run hen]
      congr 2
      simp
    · generalize hx : call g (fi ++ (.unk :: ca)) ⟨T.set h .coll nx, nx + 1, ⟨.ptr nx 0, []⟩ :: d⟩ = x at hr' hret
      cases x with
      | err n => cases hr'
      | pan v s => cases hr'
      | ok v st' =>
        simp only at hr'
        cases hr'
        obtain ⟨hdf, hcalls⟩ := hret
        refine Calls.mono hcalls fun e' w3 ⟨ρ1, v', he, hle1, hv, hw3⟩ => ?_
        have hbl : (w.alloc (.deferred (some []))).heap.size = w.heap.size + 1 := by simp
        have hl3 : w3.heap[w.heap.size + 1]? = some (.loop rec_) := by
          have := hw3.below.block (w.heap.size + 1) (.inr hbl.symm)
          rw [this, ← hbl]
          exact alloc_heap _ _
        refine ⟨v', { w3 with heap := w3.heap.setIfInBounds (w.heap.size + 1) (.loop { rec_ with state := .exhausted }) }, he, ?_, ρ1, Ren.le_trans hle hle1, rfl, rfl, ?_, ?_, ?_⟩
        · have hne : (rec_.state == .busy) = false := rfl
          simp only [Instr.endLoop, Instr.getLoop, Sem.run_bind, run_getObj hl3 (by simp), Result.andThen, Sem.run_pure, hne, Bool.false_eq_true, if_false, run_setObj hl3 (by simp)]
          rfl
        · exact ⟨hs.ng, hs.size, fun t => (hs.slot t).mono sy (Ren.le_trans hle hle1)⟩
        · rw [hdf]
          simp only [DRel]
          exact ⟨_, _, rfl, .inl ⟨nx, ⟨w.heap.size, 0, 0, 0⟩, rfl, hle1 _ _ (Ren.put_same _ _ _), rfl⟩, hd.mono (Ren.le_trans hle hle1)⟩
        · refine hw3.again.free (.inr hbl.symm) (fun k hk => ⟨.inl hk, fun e => ?_⟩) (fun _ h => h) hw.ro ?_
          · have := hw.base k hk; omega
          · have k1 : Kept B w0 (w.alloc (.deferred (some []))) := hw1.below
            have k2 : Kept B (w.alloc (.deferred (some []))) ((w.alloc (.deferred (some []))).alloc (.loop rec_)) := ⟨rfl, rfl, rfl, by simp, fun k hk => Below.heap_alloc _ _ k (hw1.base k hk)⟩
            have k3 : Kept B ((w.alloc (.deferred (some []))).alloc (.loop rec_)) w3 := ⟨hw3.below.os, hw3.below.tape, hw3.below.output, hw3.below.size, fun j hj => hw3.below.block j (.inl hj)⟩
            exact (k1.trans k2).trans k3
end
end Go.Proofs.YtbmbjaogcmokoaaGreatDoorX

namespace Go.Proofs.YtbmbjaogcmokoaaGreatDoorX
open Go Go.RowKit
set_option linter.unusedVariables false

mutual
theorem eqCV_eq : ∀ (x y : CV), eqCV x y = true → x = y
  | .bool a, y, h => by cases y <;> simp [eqCV] at h; subst h; rfl
  | .int k a, y, h => by cases y <;> simp [eqCV] at h; obtain ⟨rfl, rfl⟩ := h; rfl
  | .float k a, y, h => by cases y <;> simp [eqCV] at h; obtain ⟨rfl, rfl⟩ := h; rfl
  | .str l n, y, h => by cases y <;> simp [eqCV] at h; obtain ⟨rfl, rfl⟩ := h; rfl
  | .sym i b, y, h => by cases y <;> simp [eqCV] at h; obtain ⟨rfl, rfl⟩ := h; rfl
  | .slen b, y, h => by cases y <;> simp [eqCV] at h; subst h; rfl
  | .smod r, y, h => by cases y <;> simp [eqCV] at h; subst h; rfl
  | .ptr b o, y, h => by cases y <;> simp [eqCV] at h; obtain ⟨rfl, rfl⟩ := h; rfl
  | .nilp, y, h => by cases y <;> simp [eqCV] at h; rfl
  | .slice b o l c q, y, h => by cases y <;> simp [eqCV] at h; obtain ⟨rfl, rfl, rfl, rfl, rfl⟩ := h; rfl
  | .nils, y, h => by cases y <;> simp [eqCV] at h; rfl
  | .map b, y, h => by cases y <;> simp [eqCV] at h; subst h; rfl
  | .nilm, y, h => by cases y <;> simp [eqCV] at h; rfl
  | .func f fi ca, y, h => by
    cases y <;> try (cases f <;> simp [eqCV] at h; done)
    rename_i g fj cb
    cases f <;> cases g <;> simp [eqCV] at h
    obtain ⟨rfl, h1, h2⟩ := h
    rw [eqCVs_eq _ _ h1, eqCVs_eq _ _ h2]
  | .nilf, y, h => by cases y <;> simp [eqCV] at h; rfl
  | .iface t v, y, h => by
    cases y <;> simp [eqCV] at h
    obtain ⟨rfl, h1⟩ := h
    rw [eqCV_eq _ _ h1]
  | .nili, y, h => by cases y <;> simp [eqCV] at h; rfl
  | .agg l, y, h => by
    cases y <;> simp [eqCV] at h
    rw [eqCVs_eq _ _ h]
  | .tup l, y, h => by
    cases y <;> simp [eqCV] at h
    rw [eqCVs_eq _ _ h]
  | .unk, y, h => by cases y <;> simp [eqCV] at h
theorem eqCVs_eq : ∀ (x y : List CV), eqCVs x y = true → x = y
  | [], y, h => by cases y <;> simp [eqCVs] at h; rfl
  | x :: r, y, h => by
    cases y <;> simp [eqCVs] at h
    rw [eqCV_eq _ _ h.1, eqCVs_eq _ _ h.2]
end


section
variable {P : Program} {cx : Cx} {call : Caller} {all : List Oper}
def GuardIs (cx : Cx) (all : List Oper) (g : Option (Nat × Bool)) (env : List CV) (loc : Loc) (b : Bool) : Prop := ∀ K : Bool → R, (guardF cx all g).f env loc K = K b
def PutIs (cx : Cx) (d : Option Nat) (v : CV) (env : List CV) (loc : Loc) (env1 : List CV) (loc1 : Loc) : Prop := ∀ (K : List CV → Loc → St → R) (st : St), (put cx d).f v env loc K st = K env1 loc1 st

theorem guard_is (g : Option (Nat × Bool)) (env : List CV) (loc : Loc) : (∃ b, GuardIs cx all g env loc b) ∨ ∃ n, ∀ K : Bool → R, (guardF cx all g).f env loc K = .err n := by
  unfold GuardIs guardF
  cases g with
  | none => exact .inl ⟨true, fun _ => rfl⟩
  | some jw =>
    obtain ⟨j, wt⟩ := jw
    simp only
    cases all[j]? with
    | none => exact .inl ⟨false, fun _ => rfl⟩
    | some o =>
      simp only
      cases o.dst with
      | none => exact .inl ⟨false, fun _ => rfl⟩
      | some d =>
        simp only
        cases (evTmpAt d (pos cx.vars d)).f env loc <;> first | exact .inr ⟨_, fun _ => rfl⟩ | exact .inl ⟨_, fun _ => rfl⟩
theorem put_is (d : Option Nat) (v : CV) (env : List CV) (loc : Loc) : (∃ env1 loc1, PutIs cx d v env loc env1 loc1) ∨ ∃ n, ∀ (K : List CV → Loc → St → R) (st : St), (put cx d).f v env loc K st = .err n := by
  unfold PutIs put
  cases d with
  | none => exact .inl ⟨_, _, fun _ _ => rfl⟩
  | some t =>
    simp only
    cases Nat.blt t cx.nt with
    | false => exact .inr ⟨_, fun _ _ => rfl⟩
    | true =>
      simp only [putAt]
      cases pos cx.vars t <;> exact .inl ⟨_, _, fun _ _ => rfl⟩
theorem put_look {d : Option Nat} {v : CV} {env env1 : List CV} {loc loc1 : Loc} (h : PutIs cx d v env loc env1 loc1) :
    (∀ t, d = some t → t < cx.nt) ∧ ∀ u, look cx env1 loc1 u = .unk ∨ look cx env1 loc1 u = if d = some u then v else look cx env loc u := by
  unfold PutIs put at h
  cases d with
  | none =>
    have h' := h (fun env loc st => .ok (.exit 0) env ⟨st.heap, st.next, []⟩) ⟨.nil, 0, []⟩
    have he : env = env1 := by simpa using h'
    have hl : ∀ u, loc.look u = loc1.look u := fun u => by
      have := h (fun _ l _ => .ok (.panic (l.look u)) [] ⟨.nil, 0, []⟩) ⟨.nil, 0, []⟩
      simpa using this
    subst he
    refine ⟨(fun t ht => by cases ht), fun u => .inr ?_⟩
    rw [if_neg (by simp)]
    unfold look
    split
    · rfl
    · exact (hl u).symm
  | some t =>
    simp only at h
    cases hb : Nat.blt t cx.nt with
    | false =>
      rw [hb] at h
      have := h (fun _ _ _ => .ok .normal [] ⟨.nil, 0, []⟩) ⟨.nil, 0, []⟩
      cases this
    | true =>
      rw [hb] at h
      simp only [putAt] at h
      refine ⟨(fun t' ht => by cases ht; simpa [Nat.blt_eq] using hb), fun u => ?_⟩
      cases hp : pos cx.vars t with
      | some k =>
        rw [hp] at h
        have he : setNth env v k = env1 := by
          have := h (fun e _ _ => .ok .normal e ⟨.nil, 0, []⟩) ⟨.nil, 0, []⟩
          simpa using this
        have hl : loc.look u = loc1.look u := by
          have := h (fun _ l _ => .ok (.panic (l.look u)) [] ⟨.nil, 0, []⟩) ⟨.nil, 0, []⟩
          simpa using this
        subst he
        unfold look
        cases hpu : pos cx.vars u with
        | none =>
          simp only
          have hne : t ≠ u := fun e => by subst e; rw [hp] at hpu; cases hpu
          rw [if_neg (by simpa using hne)]
          exact .inr hl.symm
        | some j =>
          simp only
          rw [nth_setNth]
          by_cases htu : t = u
          · subst htu
            rw [hp] at hpu; cases hpu
            by_cases hk : k < env.length
            · rw [if_pos ⟨rfl, hk⟩, if_pos rfl]; exact .inr rfl
            · rw [if_neg (by omega), nth_ge env k (by omega)]; exact .inl rfl
          · have hjk : j ≠ k := fun e => by subst e; exact htu (pos_inj hp hpu)
            rw [if_neg (by omega), if_neg (by simpa using htu)]; exact .inr rfl
      | none =>
        rw [hp] at h
        have he : env = env1 := by
          have := h (fun e _ _ => .ok .normal e ⟨.nil, 0, []⟩) ⟨.nil, 0, []⟩
          simpa using this
        have hl : (Loc.cons t v loc).look u = loc1.look u := by
          have := h (fun _ l _ => .ok (.panic (l.look u)) [] ⟨.nil, 0, []⟩) ⟨.nil, 0, []⟩
          simpa using this
        subst he
        unfold look
        cases hpu : pos cx.vars u with
        | some j =>
          simp only
          have hne : t ≠ u := fun e => by subst e; rw [hp] at hpu; cases hpu
          rw [if_neg (by simpa using hne)]
          exact .inr rfl
        | none =>
          simp only
          rw [← hl, loc_look_cons]
          by_cases htu : t = u
          · subst htu
            rw [if_pos rfl, show Nat.beq t t = true from Nat.beq_refl t]; exact .inr rfl
          · rw [if_neg (by simpa using htu)]
            have : Nat.beq t u = false := by
              cases hx : Nat.beq t u with
              | false => rfl
              | true => exact absurd (Nat.eq_of_beq_eq_true hx) htu
            rw [this]; exact .inr rfl

end

def LeV (x y : CV) : Prop := x = .unk ∨ x = y
theorem LeV.rel {sy : Sy} {ρ : Ren} {x y : CV} {v : Value} (h : LeV x y) (k : VRel sy ρ y v) : VRel sy ρ x v := by
  rcases h with rfl | rfl
  · simp [VRel]
  · exact k
theorem LeV.trans {x y z : CV} (h : LeV x y) (k : LeV y z) : LeV x z := by
  rcases h with rfl | rfl
  · exact .inl rfl
  · exact k

def maskL (T : Nat → Bool) : Loc → Loc
  | .nil => .nil
  | .cons t v r => if T t = true then .cons t v (maskL T r) else maskL T r
theorem nth_mask (T : Nat → Bool) : ∀ (vars : List Nat) (env : List CV) (t k : Nat), pos vars t = some k → nth (maskE T vars env) k = if T t = true then nth env k else .unk
  | [], env, t, k, h => by cases h
  | u :: vs, [], t, k, h => by
    unfold maskE
    rw [nth_ge [] k (by simp)]
    simp
  | u :: vs, v :: es, t, k, h => by
    unfold pos at h
    unfold maskE
    cases e : Nat.beq u t with
    | true =>
      rw [e] at h
      simp only [cond_true] at h
      cases h
      have : u = t := Nat.eq_of_beq_eq_true e
      subst this
      show (if T u = true then v else CV.unk) = _
      rfl
    | false =>
      rw [e] at h
      simp only [cond_false] at h
      cases hp : pos vs t with
      | none => rw [hp] at h; cases h
      | some j =>
        rw [hp] at h
        simp only [Option.some.injEq] at h
        subst h
        show nth (maskE T vs es) j = if T t = true then nth es j else .unk
        exact nth_mask T vs es t j hp
theorem loc_mask (T : Nat → Bool) (t : Nat) : ∀ (l : Loc), (maskL T l).look t = if T t = true then l.look t else .unk
  | .nil => by
    unfold maskL
    have : Loc.look .nil t = .unk := rfl
    rw [this]; simp
  | .cons u v r => by
    unfold maskL
    by_cases hu : T u = true
    · rw [if_pos hu, loc_look_cons, loc_look_cons, loc_mask T t r]
      cases e : Nat.beq u t with
      | true =>
        have : u = t := Nat.eq_of_beq_eq_true e
        subst this
        simp [hu]
      | false => simp only [cond_false]
    · rw [if_neg hu, loc_mask T t r, loc_look_cons]
      by_cases ht : T t = true
      · rw [if_pos ht, if_pos ht]
        cases e : Nat.beq u t with
        | true =>
          have : u = t := Nat.eq_of_beq_eq_true e
          subst this
          exact absurd ht hu
        | false => rfl
      · rw [if_neg ht, if_neg ht]
theorem look_mask {cx : Cx} (T : Nat → Bool) (env : List CV) (loc : Loc) (t : Nat) : look cx (maskE T cx.vars env) (maskL T loc) t = if T t = true then look cx env loc t else .unk := by
  unfold look
  cases hp : pos cx.vars t with
  | none => exact loc_mask T t loc
  | some k => exact nth_mask T cx.vars env t k hp

section
variable {sy : Sy} {G : Nat} {ρ : Ren} {cx : Cx} {env env1 env' : List CV} {loc loc1 : Loc} {a : Act}
theorem getD_set_tmp (l : Array Value) (d u : Nat) (v : Value) (h : d < l.size) : (l.setIfInBounds d v).getD u undef = if d = u then v else l.getD u undef := by
  by_cases e : d = u
  · subst e; simp [h]
  · rw [if_neg e]; simp [Array.getElem?_setIfInBounds_ne e]
theorem SR.put (h : SR sy G cx ρ env loc a) {v : CV} {v' : Value} (hv : VRel sy ρ v v') {d : Option Nat} (hp : PutIs cx d v env loc env1 loc1) : SR sy G cx ρ env1 loc1 (a.put d v') := by
  obtain ⟨h1, h2⟩ := put_look hp
  refine ⟨h.ng, by cases d <;> simp [Act.put] <;> exact h.size, fun u => ?_⟩
  rcases h2 u with k | k
  · rw [k]; simp [VRel]
  · rw [k]
    cases d with
    | none => exact h.slot u
    | some t =>
      have hlt : t < a.tmps.size := Nat.lt_of_lt_of_le (h1 t rfl) h.size
      simp only [Act.put]
      rw [getD_set_tmp _ _ _ _ hlt]
      by_cases e : t = u
      · subst e; rw [if_pos rfl, if_pos rfl]; exact hv
      · rw [if_neg (by simpa using e), if_neg e]; exact h.slot u
theorem SR.less (h : SR sy G cx ρ env loc a) (hl : ∀ t, LeV (look cx env' loc1 t) (look cx env loc t)) : SR sy G cx ρ env' loc1 a := ⟨h.ng, h.size, fun t => (hl t).rel (h.slot t)⟩
theorem less_loc (env : List CV) (loc : Loc) (t : Nat) : LeV (look cx env .nil t) (look cx env loc t) := by
  unfold look
  split
  · exact .inr rfl
  · exact .inl rfl
theorem less_nth {l m : List CV} (h : ∀ k, LeV (nth l k) (nth m k)) (t : Nat) : LeV (look cx l .nil t) (look cx m .nil t) := by
  unfold look
  split
  · exact h _
  · exact .inr rfl
theorem nth_nil (k : Nat) : nth [] k = .unk := rfl
theorem keptE_less : ∀ (l m : List CV), keptE l m = true → ∀ k, LeV (nth l k) (nth m k)
  | [], m, h, k => .inl rfl
  | x :: r, [], h, k => by simp [keptE] at h
  | x :: r, y :: s, h, k => by
    unfold keptE at h
    rw [Bool.and_eq_true] at h
    cases k with
    | zero =>
      show LeV x y
      obtain ⟨h1, _⟩ := h
      cases x <;> first | exact .inl rfl | exact .inr (eqCV_eq _ _ h1)
    | succ k => exact keptE_less r s h.2 k
theorem alikeE_less : ∀ (l m : List CV) (k : Nat), LeV (nth (alikeE l m) k) (nth l k) ∧ LeV (nth (alikeE l m) k) (nth m k)
  | [], m, k => ⟨.inr (by cases m <;> rfl), .inl (by cases m <;> rfl)⟩
  | x :: r, [], k => ⟨.inl rfl, .inl rfl⟩
  | x :: r, y :: s, k => by
    unfold alikeE
    cases k with
    | zero =>
      show LeV (bif eqCV x y then x else .unk) x ∧ LeV (bif eqCV x y then x else .unk) y
      cases h : eqCV x y with
      | false => exact ⟨.inl rfl, .inl rfl⟩
      | true => exact ⟨.inr rfl, .inr (eqCV_eq _ _ h)⟩
    | succ k => exact alikeE_less r s k
end
end Go.Proofs.YtbmbjaogcmokoaaGreatDoorX

namespace Go.Proofs.YtbmbjaogcmokoaaGreatDoorX
open Go Go.RowKit
set_option linter.unusedVariables false

section
variable {P : Program} {cx : Cx} {call : Caller} {env env' : List CV} {loc loc' : Loc} {st st' : St} {v : CV}

theorem fill_keep {place : Nat → Option (Nat × Nat)} : ∀ (parts : List (Nat × Operand)) (size : Nat) (cs : List CV), (fillF place cx parts size).f cs env loc (fun l => RV.ok (.agg l) st) = .ok v st' → st' = st
  | [], size, cs, h => by
    have h' : RV.ok (.agg cs) st = .ok v st' := h
    cases h'; rfl
  | (i, x) :: r, size, cs, h => by
    unfold fillF at h
    cases hp : place i with
    | none => rw [hp] at h; cases h
    | some on =>
      obtain ⟨off, n⟩ := on
      rw [hp] at h
      simp only at h
      cases hb : Nat.ble (Nat.add off n) size with
      | false => rw [hb] at h; cases h
      | true =>
        rw [hb] at h
        simp only [cond_true] at h
        generalize (Nat.beq (len (cellsOf ((ev cx x).f env loc))) n && (cellsOf ((ev cx x).f env loc)).all oneCell) = q at h
        cases q with
        | false => cases h
        | true => exact fill_keep r size _ h

theorem guardK_keep {kd n : Nat} {r : RV} (h : guardK kd n r = .ok v st') (k : r = .ok v st' → st' = st) : st' = st := by
  unfold guardK at h
  cases hb : Nat.beq kd n with
  | false => rw [hb] at h; cases h
  | true => rw [hb] at h; exact k h
theorem eqCell_keep {k : Nat} {x y : CV} {K : Bool → RV} (hK : ∀ b, K b = .ok v st' → st' = st) (h : eqCell k x y K = .ok v st') : st' = st := by
  unfold eqCell at h
  cases x <;> simp only at h <;> try (cases h; done)
  all_goals
    cases y <;> simp only at h <;> try (cases h; done)
  · rename_i a b
    cases hb : Nat.beq k 3 <;> rw [hb] at h <;> first | (cases h; done) | exact hK _ h
  · rename_i i a j b
    cases hb : Nat.beq k 1 && decide (i = j) <;> rw [hb] at h <;> first | (cases h; done) | exact hK _ h
  · rename_i l n m q
    cases hb : Nat.beq k 2 <;> rw [hb] at h <;> first | (cases h; done) | exact hK _ h
theorem eqCells_keep {xs ys : List CV} {K : Bool → RV} (hK : ∀ b, K b = .ok v st' → st' = st) : ∀ (l : List (Nat × Nat)), eqCells xs ys K l = .ok v st' → st' = st
  | [], h => hK _ h
  | (o, k) :: l, h => by
    have h' : (match xs[o]? with
      | some a => match ys[o]? with
        | some b => eqCell k a b fun t => bif t then eqCells xs ys K l else K false
        | none => .err 227
      | none => .err 228) = RV.ok v st' := h
    cases hx : xs[o]? with
    | none => rw [hx] at h'; cases h'
    | some a =>
      cases hy : ys[o]? with
      | none => rw [hx, hy] at h'; cases h'
      | some b =>
        rw [hx, hy] at h'
        refine eqCell_keep (fun t ht => ?_) h'
        cases t with
        | true => exact eqCells_keep hK l ht
        | false => exact hK _ ht
theorem eqNil_keep {kd : Nat} {lit : Bool} {es : Option (List (Nat × Nat))} {pq : Nat → Nat → Bool} {x y : CV} {K : Bool → RV} (hK : ∀ b, K b = .ok v st' → st' = st) (h : eqNil kd lit es pq x y K = .ok v st') : st' = st := by
  unfold eqNil at h
  cases x <;> cases y <;> simp only at h <;> first
    | (cases h; done)
    | exact guardK_keep h (hK _)
    | (cases lit <;> first | (cases h; done) | exact guardK_keep h (hK _))
    | (cases es <;> first | (cases h; done) | exact eqCells_keep hK _ h)
    | (rename_i b o b' o'; cases hb : Nat.beq b b' <;> rw [hb] at h <;> first | (cases h; done) | exact guardK_keep h (hK _) | (simp only [cond_false] at h; cases hp : pq b b' <;> rw [hp] at h <;> first | (cases h; done) | exact guardK_keep h (hK _)))
theorem ok_keep {u : CV} (h : RV.ok u st = .ok v st') : st' = st := by cases h; rfl
theorem intV_keep {k : IntKind} {n : Int} (h : intV k n st = .ok v st') : st' = st := by rw [intV_eq] at h; exact ok_keep h
theorem binAny_keep {kd : Nat} {lit : Bool} {es : Option (List (Nat × Nat))} {op : BinOp} {x : CV} {y : Ev} (h : binAny kd lit es op x y env loc st = .ok v st') : st' = st := by
  have other : ∀ u, (binOther kd lit es op).f u (y.f env loc) st = .ok v st' → st' = st := by
    intro u h
    unfold binOther at h
    cases op <;> simp only at h <;> first
      | (cases h; done)
      | exact eqNil_keep (fun _ h => ok_keep h) h
  unfold binAny at h
  cases x <;> simp only at h <;> try exact other _ h
  · cases hy : y.f env loc <;> rw [hy] at h <;> simp only at h <;> try (cases h; done)
    rename_i k a k' b
    cases hk : decide (k = k') <;> rw [hk] at h <;> simp only at h <;> try (cases h; done)
    unfold binInt at h
    cases op <;> simp only at h <;> first
      | (cases h; done)
      | exact intV_keep h
      | exact ok_keep h
      | (cases hd : decide (b = 0) <;> rw [hd] at h <;> simp only [forceI_eq] at h <;> first | (cases h; done) | exact intV_keep h | exact ok_keep h)
  · cases hy : y.f env loc <;> rw [hy] at h <;> simp only at h <;> try (cases h; done)
    unfold binStr at h
    cases op <;> simp only at h <;> first
      | (cases h; done)
      | exact ok_keep h
      | (rename_i l n m k; cases hd : Nat.ble (Nat.add l m) 4294967296 <;> rw [hd] at h <;> simp only [cond_true, cond_false, strV, forceN_eq] at h <;> first | (cases h; done) | exact ok_keep h)
  · unfold symGtr at h
    cases op <;> simp only at h <;> try (cases h; done)
    cases hy : y.f env loc <;> rw [hy] at h <;> simp only at h <;> try (cases h; done)
    rename_i k n
    cases hc : (decide (k = .i64) && decide (n = 67108864)) <;> rw [hc] at h <;> first | (cases h; done) | exact ok_keep h
  · unfold symRem at h
    cases op <;> simp only at h <;> try (cases h; done)
    cases hy : y.f env loc <;> rw [hy] at h <;> simp only at h <;> try (cases h; done)
    rename_i k n
    cases hc : (decide (k = .i64) && decide (n = 40)) <;> rw [hc] at h <;> first | (cases h; done) | exact ok_keep h
theorem loadAt_keep {g : Bool} {n b o : Nat} (h : loadAt g n b o st (fun v => .ok v st) = .ok v st') : st' = st := by
  unfold loadAt at h
  cases hc : cellsAt b st with
  | none => rw [hc] at h; cases h
  | some cells =>
    rw [hc] at h
    cases g <;> simp only at h
    · cases hg : cells.get o <;> rw [hg] at h <;> simp only at h <;> first | (cases h; done) | exact ok_keep h
    · cases hg : loadN cells n o <;> rw [hg] at h <;> simp only at h <;> first | (cases h; done) | exact ok_keep h
theorem ixAddr_keep {es b o l : Nat} {i : CV} (h : ixAddr es b o l i st = .ok v st') : st' = st := by
  unfold ixAddr at h
  cases i <;> simp only at h <;> try (cases h; done)
  rename_i k n
  cases n <;> simp only at h <;> try (cases h; done)
  rename_i n
  cases hb : Nat.blt n l <;> rw [hb] at h <;> simp only [cond_true, cond_false, forceN_eq] at h <;> first | (cases h; done) | exact ok_keep h

theorem sliceStr_keep {l n lo hi : Nat} (h : sliceStr l n lo hi st = .ok v st') : st' = st := by
  unfold sliceStr at h
  generalize (Nat.ble lo hi && Nat.ble hi l) = q at h
  cases q <;> simp only [cond_true, cond_false, strV, forceN_eq] at h <;> first | (cases h; done) | exact ok_keep h
theorem intAt_keep {x : CV} {K : Nat → RV} (hK : ∀ n, K n = .ok v st' → st' = st) (h : intAt x K = .ok v st') : st' = st := by
  unfold intAt at h
  cases x <;> simp only at h <;> try (cases h; done)
  rename_i k n
  cases n <;> simp only at h <;> first | (cases h; done) | exact hK _ h
theorem optInt_keep {x : Option Operand} {d : Nat} {K : Nat → RV} (hK : ∀ n, K n = .ok v st' → st' = st) (h : (optInt cx x).f env loc d K = .ok v st') : st' = st := by
  cases x with
  | none => exact hK d h
  | some y => exact intAt_keep hK h

theorem keyEq_keep {x y : CV} {K : Bool → RV} (hK : ∀ b, K b = .ok v st' → st' = st) (h : keyEq x y K = .ok v st') : st' = st := by
  unfold keyEq at h
  cases x <;> simp only at h <;> try (cases h; done)
  · cases y <;> simp only at h <;> try (cases h; done)
    split at h
    · exact hK _ h
    · cases h
  · cases y <;> simp only at h <;> first | (cases h; done) | exact hK _ h
theorem findE_keep {x : CV} {K : Option CV → RV} (hK : ∀ b, K b = .ok v st' → st' = st) : ∀ (es : List Ent), findE x K es = .ok v st' → st' = st
  | [], h => hK _ h
  | e :: es, h => by
    have h' : keyEq x e.key (fun b => bif b then K (some e.val) else findE x K es) = .ok v st' := h
    refine keyEq_keep (fun b hb => ?_) h'
    cases b with
    | true => exact hK _ hb
    | false => exact findE_keep hK es hb
theorem keyForce_keep {kd : Nat} {x : CV} {K : CV → RV} (hK : ∀ b, K b = .ok v st' → st' = st) (h : keyForce kd x K = .ok v st') : st' = st := by
  unfold keyForce at h
  cases x <;> simp only at h <;> try (cases h; done)
  · rename_i k a
    cases hb : Nat.beq kd 2 <;> rw [hb] at h <;> first | (cases h; done) | exact hK _ h
  · rename_i l n
    cases hb : Nat.beq kd 1 <;> rw [hb] at h <;> first | (cases h; done) | exact hK _ h
theorem lookAns_keep {ok b : Bool} {u : CV} (h : lookAns ok u b st = .ok v st') : st' = st := by
  unfold lookAns at h
  cases ok <;> exact ok_keep h

theorem packC_keep : ∀ (cs : List CV) {K : Nat → RV} {v : CV} {st st' : St}, packC cs K = .ok v st' → (∀ n, K n = .ok v st' → st' = st) → st' = st
  | [], K, v, st, st', h, hk => hk 0 h
  | c :: cs, K, v, st, st', h, hk => by
    unfold packC at h
    cases c <;> try (cases h; done)
    rename_i k m
    cases m with
    | negSucc m => cases h
    | ofNat m =>
      simp only at h
      cases hb : decide (k = .u8) && Nat.blt m 256 with
      | false => rw [hb] at h; cases h
      | true =>
        rw [hb] at h
        exact packC_keep cs (K := fun r => forceN K (Nat.add m (Nat.mul 256 r))) h fun n hn => hk _ (by rw [forceN_eq] at hn; exact hn)
theorem bif_keep {c : Bool} {u v : CV} {n : Nat} {st st' : St} (h : (bif c then RV.ok u st else .err n) = .ok v st') : st' = st := by
  cases c
  · cases h
  · cases h; rfl
theorem toUnsafe_keep {u v : CV} {st st' : St} (h : toUnsafe u st = .ok v st') : st' = st := by
  unfold toUnsafe at h
  cases u <;> simp only at h <;> try (cases h; done)
  · split at h
    · split at h
      · exact bif_keep h
      · cases h
    · cases h
  · cases h; rfl
theorem fromUnsafe_keep {u0 : Nat} {u v : CV} {st st' : St} (h : fromUnsafe P u0 u st = .ok v st') : st' = st := by
  unfold fromUnsafe at h
  cases u <;> simp only at h <;> try (cases h; done)
  · split at h
    · split at h
      · split at h
        · exact bif_keep h
        · cases h
      · cases h
    · cases h
  · cases h; rfl
theorem strOfBytes_keep {u v : CV} {st st' : St} (h : strOfBytes u st = .ok v st') : st' = st := by
  unfold strOfBytes at h
  cases u <;> try (cases h; done)
  · rename_i b o l c q
    simp only at h
    cases hc : cellsAt b st with
    | none => rw [hc] at h; cases h
    | some cells =>
      rw [hc] at h
      simp only at h
      cases hl : loadN cells l o with
      | none => rw [hl] at h; cases h
      | some cs =>
        rw [hl] at h
        exact packC_keep cs h fun n hn => by cases hn; rfl
  · cases h; rfl
theorem reads_keep {op : Op} (hr : reads P op = true) (h : (opF P cx op).f call env loc st = .ok v st') : st' = st := by
  cases op <;> simp only [reads] at hr <;> try (cases hr; done)
  all_goals simp only [opF] at h
  case move => exact ok_keep h
  case assign => exact ok_keep h
  case pick c a b =>
    unfold oPick at h
    simp only at h
    cases hc : (ev cx c).f env loc <;> rw [hc] at h <;> simp only at h <;> try (cases h; done)
    rename_i t
    cases t <;> exact ok_keep h
  case build t parts =>
    unfold oBuild at h
    split at h
    · split at h
      · split at h
        · exact fill_keep _ _ _ h
        · cases h
      · split at h
        · exact fill_keep _ _ _ h
        · cases h
      · cases h
    · cases h
  case load t a =>
    unfold oLoad at h
    split at h
    · simp only at h
      cases hc : (ev cx a).f env loc <;> rw [hc] at h <;> simp only at h <;> try (cases h; done)
      exact loadAt_keep h
    · cases h
  case nilCheck x =>
    unfold oNilCheck at h
    simp only at h
    cases hc : (ev cx x).f env loc <;> rw [hc] at h <;> simp only at h <;> try (cases h; done)
    · exact ok_keep h
    · exact ok_keep h
    · rename_i f _ _
      cases f <;> simp only at h <;> first | (cases h; done) | exact ok_keep h
  case binOp op t x y t2 =>
    unfold oBinOp at h
    split at h
    · simp only at h
      cases hx : (ev cx x).f env loc <;> rw [hx] at h <;> simp only at h <;> try (cases h; done)
      cases hy : (ev cx y).f env loc <;> rw [hy] at h <;> simp only at h <;> try (cases h; done)
      rename_i k a _ b
      unfold shiftInt at h
      cases op <;> simp only at h <;> try (cases h; done)
      · cases b <;> simp only at h <;> first | (cases h; done) | exact intV_keep h
      · cases b <;> simp only [forceI_eq] at h <;> first | (cases h; done) | exact ok_keep h
    · exact binAny_keep h
  case unOp op t x =>
    unfold oUnOp at h
    cases op <;> simp only at h <;> try (cases h; done)
    · cases hx : (ev cx x).f env loc <;> rw [hx] at h <;> simp only at h <;> first | (cases h; done) | exact intV_keep h
    · cases hx : (ev cx x).f env loc <;> rw [hx] at h <;> simp only at h <;> first | (cases h; done) | exact ok_keep h
  case convert s t x =>
    unfold oConvert at h
    split at h
    · split at h
      · simp only at h
        cases hx : (ev cx x).f env loc <;> rw [hx] at h <;> simp only at h <;> first | (cases h; done) | exact intV_keep h
      · split at h
        · split at h
          · exact strOfBytes_keep h
          · cases h
        · simp only at h
          cases hx : (ev cx x).f env loc <;> rw [hx] at h <;> simp only at h <;> first | (cases h; done) | exact ok_keep h
      · rename_i h2
        rw [h2] at hr
        cases hr
      · split at h
        · split at h
          · cases h
          · exact toUnsafe_keep h
        · cases h
      · split at h
        · exact fromUnsafe_keep h
        · cases h
      · cases h
    · cases h
  case slice t x lo hi mx =>
    unfold oSlice at h
    split at h
    · split at h
      · simp only at h
        unfold strOf at h
        cases hx : (ev cx x).f env loc <;> rw [hx] at h <;> simp only at h <;> try (cases h; done)
        refine optInt_keep (fun n h => optInt_keep (fun m h => ?_) h) h
        exact sliceStr_keep h
      · cases h
    · cases h
  case fieldAddr t x f =>
    unfold oFieldAddr at h
    split at h
    · simp only at h
      cases hx : (ev cx x).f env loc <;> rw [hx] at h <;> simp only [forceN_eq] at h <;> first | (cases h; done) | exact ok_keep h
    · cases h
  case indexAddr t x i =>
    unfold oIndexAddr at h
    split at h
    · split at h
      · split at h
        · simp only at h
          cases hx : (ev cx x).f env loc <;> rw [hx] at h <;> simp only at h <;> first | (cases h; done) | exact ixAddr_keep h
        · cases h
      · split at h
        · simp only at h
          cases hx : (ev cx x).f env loc <;> rw [hx] at h <;> simp only at h <;> first | (cases h; done) | exact ixAddr_keep h
        · cases h
      · cases h
    · cases h
  case index t x i =>
    unfold oIndex at h
    split at h
    · split at h
      · simp only at h
        cases hx : (ev cx x).f env loc <;> rw [hx] at h <;> simp only at h <;> try (cases h; done)
        cases hi : (ev cx i).f env loc <;> rw [hi] at h <;> simp only at h <;> try (cases h; done)
        rename_i l n k m
        cases m <;> simp only at h <;> try (cases h; done)
        rename_i m
        cases hb : Nat.blt m l <;> rw [hb] at h <;> simp only [cond_true, cond_false, forceN_eq] at h <;> first | (cases h; done) | exact ok_keep h
      · cases h
    · cases h
  case extract x i =>
    unfold oExtract at h
    simp only at h
    cases hx : (ev cx x).f env loc <;> rw [hx] at h <;> simp only at h <;> try (cases h; done)
    rename_i l
    cases hg : l[i]? <;> rw [hg] at h <;> simp only at h <;> first | (cases h; done) | exact ok_keep h
  case field t x f =>
    unfold oField at h
    generalize fieldOf P t f = fo at h
    rcases fo with _ | ⟨off, g, n⟩
    · cases h
    · cases g with
      | true =>
        simp only at h
        cases hx : (ev cx x).f env loc <;> rw [hx] at h <;> simp only at h <;> first | (cases h; done) | exact ok_keep h
      | false =>
        simp only at h
        cases hx : (ev cx x).f env loc <;> rw [hx] at h <;> simp only at h <;> try (cases h; done)
        split at h
        · exact ok_keep h
        · cases h
  case makeInterface t x =>
    unfold oMakeIface at h
    split at h
    · split at h
      · cases h
      · exact ok_keep h
    · cases h
  case makeFunc f fi ca => exact ok_keep h
  case typeAssert x t0 t ok =>
    unfold oAssert at h
    split at h
    · simp only at h
      cases hx : (ev cx x).f env loc <;> rw [hx] at h <;> simp only at h <;> try (cases h; done)
      · rename_i t' v'
        cases hb : Nat.beq t' t <;> rw [hb] at h <;> exact ok_keep h
      · exact ok_keep h
    · simp only at h
      cases hx : (ev cx x).f env loc <;> rw [hx] at h <;> simp only at h <;> try (cases h; done)
      rename_i t' v'
      cases hb : Nat.beq t' t <;> rw [hb] at h <;> first | (cases h; done) | exact ok_keep h
    · cases h
  case lookup t m k ok =>
    unfold oLookup at h
    generalize mapOf P t = mi at h
    rcases mi with _ | ⟨kd, z⟩
    · cases h
    · cases z with
      | none => cases h
      | some z =>
        simp only at h
        cases hx : (ev cx m).f env loc <;> rw [hx] at h <;> simp only at h <;> try (cases h; done)
        · rename_i b
          cases hg : st.heap.get b with
          | none => rw [hg] at h; cases h
          | some ob =>
            rw [hg] at h
            cases ob <;> simp only at h <;> try (cases h; done)
            refine keyForce_keep (fun key hk => findE_keep (fun r hr => ?_) _ hk) h
            cases r <;> exact lookAns_keep hr
        · exact lookAns_keep h
  case call c =>
    cases hc : c.callee <;> rw [hc] at hr <;> simp only at hr <;> try (cases hr; done)
    rename_i b
    unfold oCall at h
    rw [hc] at h
    simp only at h
    unfold oBuiltin at h
    generalize c.args.toList = A at h
    generalize c.argTypes.toList = Ts at h
    cases b <;> simp only at hr <;> try (cases hr; done)
    · rcases A with _ | ⟨x, _ | ⟨y, A⟩⟩ <;> rcases Ts with _ | ⟨t, _ | ⟨t2, Ts⟩⟩ <;> simp only at h <;> try (cases h; done)
      split at h
      · split at h
        · simp only at h
          unfold lenStr at h
          cases hx : (ev cx x).f env loc <;> rw [hx] at h <;> simp only at h <;> first | (cases h; done) | exact ok_keep h
        · simp only at h
          unfold lenSl at h
          cases hx : (ev cx x).f env loc <;> rw [hx] at h <;> simp only at h <;> first | (cases h; done) | exact ok_keep h
        · exact ok_keep h
        · simp only at h
          unfold lenMap at h
          cases hx : (ev cx x).f env loc <;> rw [hx] at h <;> simp only at h <;> try (cases h; done)
          · split at h
            · split at h
              · rename_i es _ _
                have key : ∀ (l : List Ent) (n : Nat), (List.rec (motive := fun _ => Nat → RV) (fun n => .ok (.int .i64 (.ofNat n)) st) (fun _ _ ih n => forceN ih (Nat.succ n)) l : Nat → RV) n = .ok v st' → st' = st := by
                  intro l
                  induction l with
                  | nil => intro n h; exact ok_keep h
                  | cons y r ih =>
                    intro n h
                    refine ih (Nat.succ n) ?_
                    rw [← forceN_eq (List.rec (motive := fun _ => Nat → RV) (fun n => .ok (.int .i64 (.ofNat n)) st) (fun _ _ ih n => forceN ih (Nat.succ n)) r)]
                    exact h
                exact key _ _ h
              · cases h
            · cases h
          · exact ok_keep h
        · cases h
      · cases h
    · rcases A with _ | ⟨x, _ | ⟨y, _ | ⟨z, A⟩⟩⟩ <;> simp only at h <;> try (cases h; done)
      unfold oMax at h
      simp only at h
      cases hx : (ev cx x).f env loc <;> rw [hx] at h <;> simp only at h <;> try (cases h; done)
      cases hy : (ev cx y).f env loc <;> rw [hy] at h <;> simp only at h <;> try (cases h; done)
      split at h <;> exact ok_keep h
    · rcases A with _ | ⟨x, _ | ⟨y, _ | ⟨z, A⟩⟩⟩ <;> simp only at h <;> try (cases h; done)
      unfold oMin at h
      simp only at h
      cases hx : (ev cx x).f env loc <;> rw [hx] at h <;> simp only at h <;> try (cases h; done)
      cases hy : (ev cx y).f env loc <;> rw [hy] at h <;> simp only at h <;> try (cases h; done)
      split at h <;> exact ok_keep h

end
end Go.Proofs.YtbmbjaogcmokoaaGreatDoorX

namespace Go.Proofs.YtbmbjaogcmokoaaGreatDoorX
open Go Go.RowKit
set_option linter.unusedVariables false

section
variable {sy : Sy} {G : Nat} {B : Kp} {w0 : World} {P : Program} {ρ ρ' : Ren} {cx : Cx} {env env' : List CV} {loc : Loc} {a : Act} {st st' : St} {w w' : World} {o : Oper} {call : Caller} {ex : Ex}

/-- may the operation run? -/
theorem guard_rel {ops : Array Oper} {g : Option (Nat × Bool)} {K : Bool → R} {e : Ex} {env2 : List CV} {st2 : St} (hs : SR sy G cx ρ env loc a) (ho : o.guard = g)
    (hr : (guardF cx ops.toList g).f env loc K = .ok e env2 st2) : ∃ b, Region.wanted o (yielded ops a.tmps) = b ∧ K b = .ok e env2 st2 := by
  unfold guardF at hr
  cases g with
  | none => exact ⟨true, by simp [Region.wanted, ho], hr⟩
  | some jw =>
    obtain ⟨j, wnt⟩ := jw
    simp only at hr
    have hwant : Region.wanted o (yielded ops a.tmps) = (yielded ops a.tmps j == some wnt) := by simp [Region.wanted, ho]
    rw [hwant]
    cases hj : ops.toList[j]? with
    | none =>
      rw [hj] at hr
      have hj' : ops[j]? = none := by simpa using hj
      exact ⟨false, by simp [yielded, hj'], hr⟩
    | some oj =>
      rw [hj] at hr
      have hj' : ops[j]? = some oj := by simpa using hj
      simp only at hr
      cases hd : oj.dst with
      | none => rw [hd] at hr; exact ⟨false, by simp [yielded, hj', hd], hr⟩
      | some d =>
        rw [hd] at hr
        simp only [evTmpAt_eq] at hr
        have hsl := hs.slot d
        generalize look cx env loc d = v at hsl hr
        have hnb : (∀ b, a.tmps.getD d undef ≠ .bool b) → yielded ops a.tmps j = none := fun h => by
          cases hx : a.tmps[d]? with
          | none => simp only [yielded, hj', hd, Option.bind_some, hx]
          | some x =>
            simp only [yielded, hj', hd, Option.bind_some, hx]
            have hgd : a.tmps.getD d undef = x := by simp [hx]
            cases x <;> try rfl
            rename_i b
            exact absurd hgd (h b)
        have done : (∀ b, a.tmps.getD d undef ≠ .bool b) → K false = .ok e env2 st2 → ∃ b, (yielded ops a.tmps j == some wnt) = b ∧ K b = .ok e env2 st2 := fun h1 h2 => ⟨false, by rw [hnb h1]; rfl, h2⟩
        cases v <;> simp only at hr
        case unk => cases hr
        case bool b =>
          simp only [VRel] at hsl
          refine ⟨b == wnt, ?_, hr⟩
          have hb : a.tmps[d]? = some (.bool b) := by
            cases hx : a.tmps[d]? with
            | none => simp [hx, undef] at hsl
            | some x => simp [hx] at hsl; rw [hsl]
          simp only [yielded, hj', hd, Option.bind_some, hb]
          simp
        case ptr => simp only [VRel] at hsl; obtain ⟨i, _, h⟩ := hsl; exact done (by rw [h]; simp) hr
        case slice => simp only [VRel] at hsl; obtain ⟨i, _, h⟩ := hsl; exact done (by rw [h]; simp) hr
        case map => simp only [VRel] at hsl; obtain ⟨i, _, h⟩ := hsl; exact done (by rw [h]; simp) hr
        case func => simp only [VRel] at hsl; obtain ⟨_, _, h, _⟩ := hsl; exact done (by rw [h]; simp) hr
        case iface => simp only [VRel] at hsl; obtain ⟨_, h, _⟩ := hsl; exact done (by rw [h]; simp) hr
        case agg => simp only [VRel] at hsl; obtain ⟨_, h, _⟩ := hsl; exact done (by rw [h]; simp) hr
        case tup => simp only [VRel] at hsl; obtain ⟨_, h, _⟩ := hsl; exact done (by rw [h]; simp) hr
        case sym => simp only [VRel] at hsl; obtain ⟨h, _⟩ := hsl; exact done (by rw [h]; simp) hr
        case slen => simp only [VRel] at hsl; obtain ⟨_, h, _⟩ := hsl; exact done (by rw [h]; simp) hr
        case smod => simp only [VRel] at hsl; obtain ⟨_, h, _⟩ := hsl; exact done (by rw [h]; simp) hr
        all_goals (simp only [VRel] at hsl; exact done (by rw [hsl]; simp) hr)

theorem SR.dfs (h : SR sy G cx ρ env loc a) (ds : List Deferred) : SR sy G cx ρ env loc { a with defers := ds } := ⟨h.ng, h.size, h.slot⟩

/-- a region, in its text's order -/
theorem ops_ok {ops : Array Oper} {Q : Exit → Act → World → Prop} (hcall : CallerSound sy G B w0 P call) : ∀ (l : List Oper) (env : List CV) (loc : Loc) (st : St) (e : Ex) (env2 : List CV) (st2 : St) (ρ : Ren) (a : Act) (w : World),
    (opsF P cx ops.toList l).f call env loc st = .ok e env2 st2 → SR sy G cx ρ env loc a → DRel sy ρ st.dfs a.defers → WRel sy G B w0 ρ st w →
    (∀ e' a' w', PostC sy G B w0 cx ρ e env2 st2 e' a' w' → Q e' a' w') → wpList P ops Q l a w
  | [], env, loc, st, e, env2, st2, ρ, a, w, hr, hs, hd, hw, hQ => by
    have hr' : R.ok .normal env st = .ok e env2 st2 := hr
    cases hr'
    exact hQ _ _ _ ⟨ρ, Ren.le_refl _, rfl, hs.drop, hd, hw⟩
  | o :: r, env, loc, st, e, env2, st2, ρ, a, w, hr, hs, hd, hw, hQ => by
    -- the operation runs
    have run : ∀ {env : List CV} {loc : Loc} (hs : SR sy G cx ρ env loc a), (match (opF P cx o.op).f call env loc st with
        | .ok v st => (put cx o.dst).f v env loc (fun env loc st => (opsF P cx ops.toList r).f call env loc st) st
        | .pan v st => R.ok (.panic v) env st
        | .err n => .err n) = .ok e env2 st2 → o.wp P a w (wpList P ops Q r) Q := by
      intro env loc hs hr
      have hop := op_ok (o := o) hcall hs hd hw
      generalize (opF P cx o.op).f call env loc st = rv at *
      cases rv with
      | err n => cases hr
      | ok v st1 =>
        simp only at hr
        refine hop _ _ fun ρ' v' w' ds' hle hv hw' hd' => ?_
        obtain ⟨env1, loc1, hr1, hs1⟩ := put_rel (a := { a with defers := ds' }) ((hs.mono hle).dfs ds') hv hr
        refine ops_ok hcall r env1 loc1 st1 e env2 st2 ρ' _ w' hr1 hs1 ?_ hw' fun e' a' w' hp => hQ _ _ _ (hp.mono hle)
        have : (({ a with defers := ds' } : Act).put o.dst v').defers = ds' := by cases o.dst <;> rfl
        rw [this]; exact hd'
      | pan v st1 =>
        simp only at hr
        cases hr
        exact hop _ _ fun ρ' v' w' hle hv hw' hd' => hQ _ _ _ ⟨ρ', hle, ⟨v', rfl, hv⟩, (hs.mono hle).drop, hd', hw'⟩
    unfold opsF at hr
    cases hg : o.guard with
    | none =>
      rw [hg] at hr
      unfold wpList
      rw [if_pos (by simp [Region.wanted, hg])]
      exact .inl (run hs hr)
    | some g =>
      rw [hg] at hr
      simp only at hr
      obtain ⟨b, hb, hr1⟩ := guard_rel hs hg hr
      unfold wpList
      rw [hb]
      cases b with
      | true => rw [if_pos rfl]; exact .inl (run hs hr1)
      | false =>
        rw [if_neg (by simp)]
        obtain ⟨env1, loc1, hr2, hs1⟩ := put_rel (v := .tup []) (v' := undef) hs (by simp only [VRel]; exact ⟨[], rfl, VRels.nil⟩) hr1
        refine ops_ok hcall r env1 loc1 st e env2 st2 ρ _ w hr2 hs1 ?_ hw hQ
        have : (a.put o.dst undef).defers = a.defers := by cases o.dst <;> rfl
        rw [this]; exact hd

/-! ## Code -/
/-- the loop's rounds from a round's beginning -/
def LoopIn (P : Program) (c : Code) (Q : Exit → Act → World → Prop) (a : Act) (w : World) : Prop :=
  ∀ (b : Frame) (k : List Item) (cs : List Frame), ∃ e a' w', Q e a' w' ∧ Arrives P (lone (b.at a (.code c :: .inLoop c :: k)) cs w) b k cs e a' w'
theorem wp_of_loopIn {c : Code} {Q : Exit → Act → World → Prop} (h : LoopIn P c Q a w) : (Code.loop c).wp P Q a w :=
  fun b k cs => let ⟨e, a', w', q, r⟩ := h b k cs; ⟨e, a', w', q, .of_steps (.one step_loop) r⟩
theorem loopIn_step {c : Code} {Q : Exit → Act → World → Prop} (h : c.wp P (Exit.then (LoopIn P c Q) Q) a w) : LoopIn P c Q a w := by
  intro b k cs
  obtain ⟨e, a₁, w₁, hq, harr⟩ := h b (.inLoop c :: k) cs
  cases e with
  | normal =>
    obtain ⟨e₂, a₂, w₂, hq₂, harr₂⟩ := hq b k cs
    exact ⟨e₂, a₂, w₂, hq₂, .of_steps (Steps.trans harr (.one step_inLoop)) harr₂⟩
  | exit id => exact ⟨_, a₁, w₁, hq, .pass (x := .inLoop c) rfl (fun _ _ => .inl (by simp)) harr⟩
  | goto l => exact ⟨_, a₁, w₁, hq, .pass (x := .inLoop c) rfl (fun _ _ => .inl (by simp)) harr⟩
  | ret => exact ⟨_, a₁, w₁, hq, .pass (x := .inLoop c) rfl (fun _ _ => .inl (by simp)) harr⟩
  | panic ch => exact ⟨_, a₁, w₁, hq, .pass (x := .inLoop c) rfl (fun _ _ => .inl (by simp)) harr⟩
  | outgrown => exact ⟨_, a₁, w₁, hq, .pass (x := .inLoop c) rfl (fun _ _ => .inl (by simp)) harr⟩

def Den (sy : Sy) (G : Nat) (B : Kp) (w0 : World) (P : Program) (cx : Cx) (c : Code) (f : List CV → St → R) : Prop :=
  ∀ (env : List CV) (st : St) (e : Ex) (env2 : List CV) (st2 : St) (ρ : Ren) (a : Act) (w : World), f env st = .ok e env2 st2 →
    SR sy G cx ρ env .nil a → DRel sy ρ st.dfs a.defers → WRel sy G B w0 ρ st w → c.wp P (PostC sy G B w0 cx ρ e env2 st2) a w

theorem loop_ok {c : Code} {f : List CV → St → R} (h : Den sy G B w0 P cx c f) : ∀ (n : Nat) (env : List CV) (st : St) (e : Ex) (env2 : List CV) (st2 : St) (ρ : Ren) (a : Act) (w : World), loopF f n env st = .ok e env2 st2 →
    SR sy G cx ρ env .nil a → DRel sy ρ st.dfs a.defers → WRel sy G B w0 ρ st w → LoopIn P c (PostC sy G B w0 cx ρ e env2 st2) a w
  | 0, env, st, e, env2, st2, ρ, a, w, hr, _, _, _ => by
    have : R.err 116 = .ok e env2 st2 := hr
    cases this
  | n + 1, env, st, e, env2, st2, ρ, a, w, hr, hs, hd, hw => by
    have hr' : (match f env st with
      | .ok e env st => match e with
        | .normal => loopF f n env st
        | e => .ok e env st
      | .err n => .err n : R) = .ok e env2 st2 := hr
    cases hf : f env st with
    | err k => rw [hf] at hr'; cases hr'
    | ok e1 env1 st1 =>
      rw [hf] at hr'
      refine loopIn_step (Code.wp_mono (fun e' a' w' hp => ?_) (h env st e1 env1 st1 ρ a w hf hs hd hw))
      obtain ⟨ρ1, hle, hex, hs1, hd1, hw1⟩ := hp
      cases e1 with
      | normal =>
        simp only [ExRel] at hex
        subst hex
        simp only at hr'
        exact fun b k cs => by
          obtain ⟨e3, a3, w3, q3, r3⟩ := loop_ok h n env1 st1 e env2 st2 ρ1 a' w' hr' hs1 hd1 hw1 b k cs
          exact ⟨e3, a3, w3, q3.mono hle, r3⟩
      | exit id =>
        simp only at hr'
        cases hr'
        simp only [ExRel] at hex
        subst hex
        exact ⟨ρ1, hle, rfl, hs1, hd1, hw1⟩
      | ret =>
        simp only at hr'
        cases hr'
        simp only [ExRel] at hex
        subst hex
        exact ⟨ρ1, hle, rfl, hs1, hd1, hw1⟩
      | panic v =>
        simp only at hr'
        cases hr'
        obtain ⟨v', rfl, hv⟩ := hex
        exact ⟨ρ1, hle, ⟨v', rfl, hv⟩, hs1, hd1, hw1⟩

theorem eval_cond {x : Operand} (hs : SR sy G cx ρ env .nil a) (hw : WRel sy G B w0 ρ st w) {b : Bool} (h : (ev cx x).f env .nil = .bool b) : a.eval x = .bool b := by
  have := evRel hs hw x
  rw [h] at this
  simpa [VRel] using this
end
end Go.Proofs.YtbmbjaogcmokoaaGreatDoorX

namespace Go.Proofs.YtbmbjaogcmokoaaGreatDoorX
open Go Go.RowKit
set_option linter.unusedVariables false

section
variable {sy : Sy} {G : Nat} {B B' : Kp} {w0 : World} {P : Program} {ρ ρ' : Ren} {cx : Cx} {env env1 env2 env' : List CV} {loc : Loc} {a : Act} {st st' : St} {w w' : World} {o : Oper} {call : Caller} {e : Ex} {cur : Cur}

/-! ## A round's code leaves the state -/
theorem quietOp_guard (h : quietOp P o = true) : o.guard = none := by
  unfold quietOp at h
  split at h
  · cases h
  · assumption
theorem quietOp_reads (h : quietOp P o = true) (hne : ∀ x, o.op ≠ .entry x) : reads P o.op = true := by
  unfold quietOp at h
  split at h
  · cases h
  · split at h
    · rename_i x hx; exact absurd hx (hne x)
    · exact h

/-- what is known where the round is run: the entry that the iterator is at -/
def CurOk (sy : Sy) (G : Nat) (B' : Kp) (w0 : World) (P : Program) (ρ0 : Ren) (st : St) (cur : Cur) : Prop := ∀ b ent, cur = some (b, ent) → ∃ i, ρ0 b = some i ∧ i.sh = 0 ∧
  ∀ ρ w, ρ0.le ρ → WRel sy G B' w0 ρ st w → ∃ ent', VRel sy ρ ent ent' ∧ (Instr.entry (.pointer (some ⟨i.blk, 0, none⟩))).run P w = .ok ent' w
theorem CurOk.mono {ρ0 : Ren} (h : CurOk sy G B w0 P ρ0 st cur) (hle : ρ0.le ρ) : CurOk sy G B w0 P ρ st cur := fun b ent e => by
  obtain ⟨i, h1, h2, h3⟩ := h b ent e
  exact ⟨i, hle _ _ h1, h2, fun ρ' w hl => h3 ρ' w (Ren.le_trans hle hl)⟩

/-- how a round's run ends: in the same state -/
def PostQ (sy : Sy) (G : Nat) (B : Kp) (w0 : World) (cx : Cx) (ρ : Ren) (st : St) (e : Ex) (env : List CV) : Exit → Act → World → Prop := PostC sy G B w0 cx ρ e env st

theorem opsQ_ok {ops : Array Oper} {Q : Exit → Act → World → Prop} (hcall : CallerSound sy G B w0 P call) : ∀ (l : List Oper) (env : List CV) (loc : Loc) (e : Ex) (env2 : List CV) (st2 : St) (ρ : Ren) (a : Act) (w : World),
    (opsQ P cx l).f cur call env loc st = .ok e env2 st2 → l.all (quietOp P) = true → CurOk sy G B w0 P ρ st cur → SR sy G cx ρ env loc a → DRel sy ρ st.dfs a.defers → WRel sy G B w0 ρ st w →
    (∀ e' a' w', PostC sy G B w0 cx ρ e env2 st e' a' w' → Q e' a' w') → st2 = st ∧ wpList P ops Q l a w
  | [], env, loc, e, env2, st2, ρ, a, w, hr, _, hc, hs, hd, hw, hQ => by
    have hr' : R.ok .normal env st = .ok e env2 st2 := hr
    cases hr'
    exact ⟨rfl, hQ _ _ _ ⟨ρ, Ren.le_refl _, rfl, hs.drop, hd, hw⟩⟩
  | o :: r, env, loc, e, env2, st2, ρ, a, w, hr, hq, hc, hs, hd, hw, hQ => by
    rw [List.all_cons, Bool.and_eq_true] at hq
    have hg := quietOp_guard hq.1
    -- behind the operation
    have next : ∀ {v : CV}, ((put cx o.dst).f v env loc (fun env loc st => (opsQ P cx r).f cur call env loc st) st = .ok e env2 st2) →
        (∀ next Q, (∀ ρ' v' w' ds', ρ.le ρ' → VRel sy ρ' v v' → WRel sy G B w0 ρ' st w' → DRel sy ρ' st.dfs ds' → next (({ a with defers := ds' } : Act).put o.dst v') w') → o.wp P a w next Q) →
        st2 = st ∧ wpList P ops Q (o :: r) a w := by
      intro v hput hop
      rcases put_is (cx := cx) o.dst v env loc with ⟨env1, loc1, hp⟩ | ⟨n, hn⟩
      · rw [hp] at hput
        have fin : ∀ ρ' v' w' ds', ρ.le ρ' → VRel sy ρ' v v' → WRel sy G B w0 ρ' st w' → DRel sy ρ' st.dfs ds' → st2 = st ∧ wpList P ops Q r (({ a with defers := ds' } : Act).put o.dst v') w' := fun ρ' v' w' ds' hle hv hw' hd' => by
          refine opsQ_ok hcall r env1 loc1 e env2 st2 ρ' _ w' hput hq.2 (hc.mono hle) (((hs.mono hle).dfs ds').put hv hp) ?_ hw' fun e' a' w' hp => hQ _ _ _ (hp.mono hle)
          have : (({ a with defers := ds' } : Act).put o.dst v').defers = ds' := by cases o.dst <;> rfl
          rw [this]; exact hd'
        have hst : st2 = st := by
          -- the state does not hang on the model
          have keep : ∀ (l : List Oper) (env : List CV) (loc : Loc) (st2 : St), l.all (quietOp P) = true → (opsQ P cx l).f cur call env loc st = .ok e env2 st2 → st2 = st := by
            intro l
            induction l with
            | nil => intro env loc st2 _ h; have h' : R.ok .normal env st = .ok e env2 st2 := h; cases h'; rfl
            | cons o r ih =>
              intro env loc st2 hq h
              rw [List.all_cons, Bool.and_eq_true] at hq
              unfold opsQ at h
              by_cases hx : ∃ x, o.op = .entry x
              · obtain ⟨x, hx⟩ := hx
                rw [hx] at h
                simp only at h
                split at h
                · rename_i b ent
                  split at h
                  · rename_i c q _
                    cases hb : Nat.beq c b && Nat.beq q 0 with
                    | false => rw [hb] at h; cases h
                    | true =>
                      rw [hb] at h
                      simp only [cond_true] at h
                      rcases put_is (cx := cx) o.dst ent env loc with ⟨env1, loc1, hp⟩ | ⟨n, hn⟩
                      · rw [hp] at h; exact ih _ _ _ hq.2 h
                      · rw [hn] at h; cases h
                  · cases h
                · cases h
              · have hne : ∀ x, o.op ≠ .entry x := fun x h => hx ⟨x, h⟩
                have hrd := quietOp_reads hq.1 hne
                have h' : (match (opF P cx o.op).f call env loc st with
                  | .ok v st => (put cx o.dst).f v env loc (fun env loc st => (opsQ P cx r).f cur call env loc st) st
                  | .pan _ _ => .err 303
                  | .err n => .err n : R) = .ok e env2 st2 := by
                  generalize o.op = p at h hne
                  cases p <;> first | exact absurd rfl (hne _) | exact h
                cases hop : (opF P cx o.op).f call env loc st with
                | err n => rw [hop] at h'; cases h'
                | pan v s => rw [hop] at h'; cases h'
                | ok v s =>
                  rw [hop] at h'
                  have := reads_keep hrd hop
                  subst this
                  simp only at h'
                  rcases put_is (cx := cx) o.dst v env loc with ⟨env1, loc1, hp⟩ | ⟨n, hn⟩
                  · rw [hp] at h'; exact ih _ _ _ hq.2 h'
                  · rw [hn] at h'; cases h'
          exact keep r env1 loc1 st2 hq.2 hput
        refine ⟨hst, ?_⟩
        unfold wpList
        rw [if_pos (by simp [Region.wanted, hg])]
        exact .inl (hop _ _ fun ρ' v' w' ds' hle hv hw' hd' => (fin ρ' v' w' ds' hle hv hw' hd').2)
      · rw [hn] at hput; cases hput
    unfold opsQ at hr
    by_cases hx : ∃ x, o.op = .entry x
    · obtain ⟨x, hx⟩ := hx
      rw [hx] at hr
      simp only at hr
      split at hr
      · rename_i b ent
        have hxr := evRel hs hw x
        split at hr
        · rename_i c q hev
          cases hb : Nat.beq c b && Nat.beq q 0 with
          | false => rw [hb] at hr; cases hr
          | true =>
            rw [hb] at hr
            simp only [cond_true] at hr
            rw [Bool.and_eq_true] at hb
            have e1 : c = b := Nat.eq_of_beq_eq_true hb.1
            have e2 : q = 0 := Nat.eq_of_beq_eq_true hb.2
            subst e1; subst e2
            rw [hev] at hxr
            simp only [VRel] at hxr
            obtain ⟨i, hi, he⟩ := hxr
            obtain ⟨i', k1, k2, k3⟩ := hc c ent rfl
            rw [hi] at k1; cases k1
            obtain ⟨ent', hv, hrun⟩ := k3 ρ w (Ren.le_refl _) hw
            refine next hr fun nx Q' h => ?_
            unfold Oper.wp
            have : (execOp a.eval o).run P w = .ok (.value ent') w := by
              rw [k2] at he
              simp [execOp, hx, he, hrun]
            rw [this]
            exact h ρ ent' w a.defers (Ren.le_refl _) hv hw hd
        · cases hr
      · cases hr
    · have hne : ∀ x, o.op ≠ .entry x := fun x h => hx ⟨x, h⟩
      have hrd := quietOp_reads hq.1 hne
      have h' : (match (opF P cx o.op).f call env loc st with
        | .ok v st => (put cx o.dst).f v env loc (fun env loc st => (opsQ P cx r).f cur call env loc st) st
        | .pan _ _ => .err 303
        | .err n => .err n : R) = .ok e env2 st2 := by
        generalize o.op = p at hr hne
        cases p <;> first | exact absurd rfl (hne _) | exact hr
      have hop := op_ok (o := o) hcall hs hd hw
      cases hx : (opF P cx o.op).f call env loc st with
      | err n => rw [hx] at h'; cases h'
      | pan v s => rw [hx] at h'; cases h'
      | ok v s =>
        rw [hx] at h' hop
        have := reads_keep hrd hx
        subst this
        simp only at h'
        exact next h' hop

theorem denQ_ok (hcall : CallerSound sy G B w0 P call) : ∀ (c : Code) (env : List CV) (e : Ex) (env2 : List CV) (st2 : St) (ρ : Ren) (a : Act) (w : World), quietCode P c = true → (denQ P cx c).f cur call env st = .ok e env2 st2 →
    CurOk sy G B w0 P ρ st cur → SR sy G cx ρ env .nil a → DRel sy ρ st.dfs a.defers → WRel sy G B w0 ρ st w → st2 = st ∧ c.wp P (PostC sy G B w0 cx ρ e env2 st) a w := by
  intro c
  induction c with
  | skip =>
    intro env e env2 st2 ρ a w _ hr hc hs hd hw
    have hr' : R.ok .normal env st = .ok e env2 st2 := hr
    cases hr'
    exact ⟨rfl, wp_skip ⟨ρ, Ren.le_refl _, rfl, hs, hd, hw⟩⟩
  | label l =>
    intro env e env2 st2 ρ a w _ hr hc hs hd hw
    have hr' : R.ok .normal env st = .ok e env2 st2 := hr
    cases hr'
    exact ⟨rfl, wp_label ⟨ρ, Ren.le_refl _, rfl, hs, hd, hw⟩⟩
  | region id ops draw =>
    intro env e env2 st2 ρ a w hq hr hc hs hd hw
    simp only [quietCode, Bool.and_eq_true, Bool.not_eq_true'] at hq
    obtain ⟨rfl, hq⟩ := hq
    have h := opsQ_ok (ops := ops) hcall ops.toList env .nil e env2 st2 ρ a w hr hq hc hs hd hw fun _ _ _ h => h
    exact ⟨h.1, wp_region_list h.2⟩
  | seq x y ihx ihy =>
    intro env e env2 st2 ρ a w hq hr hc hs hd hw
    simp only [quietCode, Bool.and_eq_true] at hq
    have hr' : (match (denQ P cx x).f cur call env st with
      | .ok e env st => match e with
        | .normal => (denQ P cx y).f cur call env st
        | e => .ok e env st
      | .err n => .err n : R) = .ok e env2 st2 := hr
    cases hf : (denQ P cx x).f cur call env st with
    | err k => rw [hf] at hr'; cases hr'
    | ok e1 env1 st1 =>
      rw [hf] at hr'
      obtain ⟨hk, hwp⟩ := ihx env e1 env1 st1 ρ a w hq.1 hf hc hs hd hw
      subst hk
      cases e1 with
      | normal =>
        simp only at hr'
        have keep : st2 = st1 := by
          obtain ⟨e', a', w', hp, _⟩ := hwp default [] []
          obtain ⟨ρ1, hle, hex, hs1, hd1, hw1⟩ := hp
          exact (ihy env1 e env2 st2 ρ1 a' w' hq.2 hr' (hc.mono hle) hs1 hd1 hw1).1
        refine ⟨keep, wp_seq (Code.wp_mono (fun e' a' w' hp => ?_) hwp)⟩
        obtain ⟨ρ1, hle, hex, hs1, hd1, hw1⟩ := hp
        simp only [ExRel] at hex
        subst hex
        exact Code.wp_mono (fun _ _ _ h => h.mono hle) (ihy env1 e env2 st2 ρ1 a' w' hq.2 hr' (hc.mono hle) hs1 hd1 hw1).2
      | exit id =>
        simp only at hr'; cases hr'
        refine ⟨rfl, wp_seq (Code.wp_mono (fun e' a' w' hp => ?_) hwp)⟩
        obtain ⟨ρ1, hle, hex, hs1, hd1, hw1⟩ := hp
        simp only [ExRel] at hex; subst hex; exact ⟨ρ1, hle, rfl, hs1, hd1, hw1⟩
      | ret =>
        simp only at hr'; cases hr'
        refine ⟨rfl, wp_seq (Code.wp_mono (fun e' a' w' hp => ?_) hwp)⟩
        obtain ⟨ρ1, hle, hex, hs1, hd1, hw1⟩ := hp
        simp only [ExRel] at hex; subst hex; exact ⟨ρ1, hle, rfl, hs1, hd1, hw1⟩
      | panic v =>
        simp only at hr'; cases hr'
        refine ⟨rfl, wp_seq (Code.wp_mono (fun e' a' w' hp => ?_) hwp)⟩
        obtain ⟨ρ1, hle, hex, hs1, hd1, hw1⟩ := hp
        obtain ⟨v', rfl, hv⟩ := hex; exact ⟨ρ1, hle, ⟨v', rfl, hv⟩, hs1, hd1, hw1⟩
  | cond x y z ihy ihz =>
    intro env e env2 st2 ρ a w hq hr hc hs hd hw
    simp only [quietCode, Bool.and_eq_true] at hq
    have hr' : (match (ev cx x).f env .nil with
      | .bool t => match t with
        | true => (denQ P cx y).f cur call env st
        | false => (denQ P cx z).f cur call env st
      | _ => .err 305 : R) = .ok e env2 st2 := hr
    cases hv : (ev cx x).f env .nil <;> rw [hv] at hr' <;> try (cases hr'; done)
    rename_i t
    have he : a.eval x = .bool t := by
      have := evRel hs hw x
      rw [hv] at this
      simpa [VRel] using this
    cases t with
    | true => exact (ihy env e env2 st2 ρ a w hq.1 hr' hc hs hd hw).imp id (wp_cond_true he)
    | false => exact (ihz env e env2 st2 ρ a w hq.2 hr' hc hs hd hw).imp id (wp_cond_false he)
  | block id x ih =>
    intro env e env2 st2 ρ a w hq hr hc hs hd hw
    simp only [quietCode] at hq
    have hr' : (match (denQ P cx x).f cur call env st with
      | .ok e env st => match e with
        | .exit j => bif Nat.beq j id then .ok .normal env st else .ok (.exit j) env st
        | e => .ok e env st
      | .err n => .err n : R) = .ok e env2 st2 := hr
    cases hf : (denQ P cx x).f cur call env st with
    | err k => rw [hf] at hr'; cases hr'
    | ok e1 env1 st1 =>
      rw [hf] at hr'
      obtain ⟨hk, hwp⟩ := ih env e1 env1 st1 ρ a w hq hf hc hs hd hw
      subst hk
      have hst : st2 = st1 := by
        cases e1 <;> simp only at hr'
        · cases hr'; rfl
        · rename_i j
          cases hj : Nat.beq j id <;> rw [hj] at hr' <;> cases hr' <;> rfl
        · cases hr'; rfl
        · cases hr'; rfl
      refine ⟨hst, wp_block (Code.wp_mono (fun e' a' w' hp => ?_) hwp)⟩
      obtain ⟨ρ1, hle, hex, hs1, hd1, hw1⟩ := hp
      cases e1 with
      | normal => simp only at hr'; cases hr'; simp only [ExRel] at hex; subst hex; exact ⟨ρ1, hle, rfl, hs1, hd1, hw1⟩
      | exit j =>
        simp only [ExRel] at hex
        subst hex
        simp only at hr'
        cases hj : Nat.beq j id with
        | true =>
          rw [hj] at hr'
          simp only [cond_true] at hr'
          cases hr'
          have : j = id := Nat.eq_of_beq_eq_true hj
          simp only [Exit.inBlock, this, if_true]
          exact ⟨ρ1, hle, rfl, hs1, hd1, hw1⟩
        | false =>
          rw [hj] at hr'
          simp only [cond_false] at hr'
          cases hr'
          have : j ≠ id := fun h => by subst h; rw [Nat.beq_refl] at hj; cases hj
          simp only [Exit.inBlock, if_neg this]
          exact ⟨ρ1, hle, rfl, hs1, hd1, hw1⟩
      | ret => simp only at hr'; cases hr'; simp only [ExRel] at hex; subst hex; exact ⟨ρ1, hle, rfl, hs1, hd1, hw1⟩
      | panic v => simp only at hr'; cases hr'; obtain ⟨v', rfl, hv⟩ := hex; exact ⟨ρ1, hle, ⟨v', rfl, hv⟩, hs1, hd1, hw1⟩
  | loop x ih =>
    intro env e env2 st2 ρ a w hq
    simp [quietCode] at hq
  | rangeFunc f ps x y _ _ =>
    intro env e env2 st2 ρ a w hq
    simp [quietCode] at hq
  | exit id =>
    intro env e env2 st2 ρ a w _ hr hc hs hd hw
    have hr' : R.ok (.exit id) env st = .ok e env2 st2 := hr
    cases hr'
    exact ⟨rfl, wp_exit ⟨ρ, Ren.le_refl _, rfl, hs, hd, hw⟩⟩
  | scope x ih =>
    intro env e env2 st2 ρ a w hq hr hc hs hd hw
    simp only [quietCode] at hq
    obtain ⟨hk, hwp⟩ := ih env e env2 st2 ρ a w hq hr hc hs hd hw
    refine ⟨hk, wp_scope_straight (Code.wp_mono (fun e' a' w' hp => ?_) hwp)⟩
    have hp' := hp
    obtain ⟨ρ1, hle, hex, _⟩ := hp
    cases e <;> simp only [ExRel] at hex
    case panic => obtain ⟨_, rfl, _⟩ := hex; exact hp'
    all_goals subst hex; exact hp'
  | goto l =>
    intro env e env2 st2 ρ a w hq
    simp [quietCode] at hq
  | ret =>
    intro env e env2 st2 ρ a w _ hr hc hs hd hw
    have hr' : R.ok .ret env st = .ok e env2 st2 := hr
    cases hr'
    exact ⟨rfl, wp_ret ⟨ρ, Ren.le_refl _, rfl, hs, hd, hw⟩⟩
  | refuse s =>
    intro env e env2 st2 ρ a w hq
    simp [quietCode] at hq
end
end Go.Proofs.YtbmbjaogcmokoaaGreatDoorX
