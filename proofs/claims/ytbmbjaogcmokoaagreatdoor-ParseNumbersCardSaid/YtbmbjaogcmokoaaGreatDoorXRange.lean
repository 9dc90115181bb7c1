/- A range over a function of which no round is run; functions that leave with marks among their deferred calls. -/
import Derived.Test.YtbmbjaogcmokoaaGreatDoorXCode
import Derived.RangeFuncIn
import Derived.RangeFuncLeaves
namespace Go.Proofs.YtbmbjaogcmokoaaGreatDoorX
open Go Go.RowKit
set_option linter.unusedVariables false

section
variable {P : Program}

theorem atR_at (b : Frame) (a : Act) (k : List Item) : ({ b with roundOf := none } : Frame).atR a k = b.at a k := by simp [Frame.atR, Frame.at]

/-- the statement: its record is laid; the function returns, and the record is as it was -/
theorem wp_rangeFunc {g : Operand} {ps : Array Tmp} {assign body : Code} {Q : Exit → Act → World → Prop} {a : Act} {w : World}
    (h : ∀ fn : FuncId, ∃ (l : Nat) (mark : List Deferred) (w₁ : World) (d : Deferred) (w₁' : World) (f : FuncId) (args : Array Value) (w₂ : World),
      (Instr.enterLoop fn a.tmps ps assign body none).run P w = .ok (l, mark) w₁ ∧ (resolve a.eval (rangeCall g l) 0).run P w₁ = .ok d w₁' ∧ (invoke d.target d.args).run P w₁' = .ok (.enter f args) w₂ ∧
      Calls P f args w₂ fun e w₃ => ∃ v w₄, e = .returned v ∧ (Instr.endLoop l).run P w₃ = .ok none w₄ ∧ Q .normal { a with defers := mark ++ a.defers } w₄) :
    (Code.rangeFunc g ps assign body).wp P Q a w := by
  intro b k cs
  obtain ⟨l, mark, w₁, d, w₁', f, args, w₂, he, hres, hinv, hcall⟩ := h b.fn
  have henter := stepR_rangeFunc (P := P) (b := { b with roundOf := none }) (a := a) (k := k) (cs := cs) (w := w) he hres hinv
  rw [atR_at, atR_at] at henter
  obtain ⟨e, w₃, fr, ⟨v, w₄, rfl, hend, hQ⟩, hsteps, hfn, hleave⟩ := hcall (b.at { a with defers := mark ++ a.defers } (.inRangeFunc l :: k) :: cs)
  refine ⟨.normal, _, w₄, hQ, ?_⟩
  have h1 := step_leave_returned (c := b.at { a with defers := mark ++ a.defers } (.inRangeFunc l :: k)) (cs := cs) hleave
  have hfin : (b.at { a with defers := mark ++ a.defers } (.inRangeFunc l :: k)).finish v = b.at { a with defers := mark ++ a.defers } (.endRangeFunc l :: k) := by
    simp [Frame.finish, Frame.at]
  rw [hfin] at h1
  have h2 := stepR_endRangeFunc (P := P) (b := { b with roundOf := none }) (a := { a with defers := mark ++ a.defers }) (k := k) (cs := cs) hend
  rw [atR_at, atR_at] at h2
  exact .head henter (Steps.trans hsteps (.head h1 (.one h2)))

/-- 'Leaves' with marks -/
def LeavesM (P : Program) (fn : Func) (tmps : Array Value) (R : Ending → World → Prop) : List Deferred → FrameMode → World → Prop
  | [], u, w => Leaves P fn tmps R [] u w
  | d :: ds, u, w => u ≠ .run ∧
      ((∃ r w', d.target = .collected r ∧ (Instr.takeDeferred r).run P w = .ok [] w' ∧ LeavesM P fn tmps R ds u w') ∨
       ∃ fv cap f args, d.target = .fn fv cap ∧ (invoke d.target d.args).run P w = .ok (.enter f args) w ∧
        CallsD P f args u w fun
          | .returned _, u', w' => LeavesM P fn tmps R ds (settle u') w'
          | .panicked chain, u', w' => LeavesM P fn tmps R ds (raised u' chain) w'
          | .outgrown, _, w' => R .outgrown w')

theorem leaves_stepsM {fn : Func} {tmps : Array Value} {R : Ending → World → Prop} : ∀ (ds : List Deferred) (u : FrameMode) (w : World) (fr : Frame)
    (cs : List Frame), fr.mode = u → fr.defers = ds → fr.tmps = tmps → P.funcs[fr.fn]? = some fn → fr.kind = .normal → LeavesM P fn tmps R ds u w →
    ∃ e w' fr', R e w' ∧ Comes P (lone fr cs w) (lone fr' cs w') e ∧ fr'.fn = fr.fn ∧ fr'.leaving P w' e := by
  intro ds
  induction ds with
  | nil => exact fun u w fr cs hu hd ht hf hk h => leaves_steps [] u w fr cs hu hd ht hf hk h
  | cons d ds ih =>
    intro u w fr cs hu hd ht hf hk h
    obtain ⟨hrun, h⟩ := h
    rcases h with ⟨r, w', htar, htake, hrest⟩ | ⟨fv, cap, f, args, htar, hinv, hcall⟩
    · have h1 := step_collected (cs := cs) (hu ▸ hrun) hd htar htake
      obtain ⟨e', w'', fr', hR', hs', hfn', hl'⟩ := ih u w' { fr with defers := [] ++ ds } cs hu rfl ht hf hk hrest
      exact ⟨e', w'', fr', hR', Comes.of_steps (.one h1) hs', hfn', hl'⟩
    · have h1 := step_defer (cs := cs) (hu ▸ hrun) hd htar hinv
      obtain ⟨e, u', w', frX, hR, hsteps, hkX, hgo⟩ := hcall { fr with defers := ds } cs hu
      cases e with
      | returned v =>
        have h2 := step_going_returned (c := { { fr with defers := ds } with mode := u' }) (cs := cs) hkX hgo
        obtain ⟨e', w'', fr', hR', hs', hfn', hl'⟩ := ih (settle u') w' { { { fr with defers := ds } with mode := u' } with mode := settle u' } cs rfl rfl ht hf hk hR
        exact ⟨e', w'', fr', hR', Comes.of_steps (.head h1 (Steps.trans hsteps (.one h2))) hs', hfn', hl'⟩
      | panicked chain =>
        have h2 := step_going_panicked (c := { { fr with defers := ds } with mode := u' }) (cs := cs) hgo
        obtain ⟨e', w'', fr', hR', hs', hfn', hl'⟩ := ih (raised u' chain) w' { { { fr with defers := ds } with mode := u' } with mode := raised u' chain } cs rfl rfl ht hf hk hR
        exact ⟨e', w'', fr', hR', Comes.of_steps (.head h1 (Steps.trans hsteps (.one h2))) hs', hfn', hl'⟩
      | outgrown => exact ⟨.outgrown, w', fr, hR, Outgrown.of_steps (.one h1) hsteps, rfl, trivial⟩

def bodyPostM (P : Program) (fn : Func) (R : Ending → World → Prop) : Exit → Act → World → Prop
  | .normal, a, w | .ret, a, w => LeavesM P fn a.tmps R a.defers .returning w
  | .panic chain, a, w => LeavesM P fn a.tmps R a.defers (.panicking chain) w
  | .outgrown, _, w => R .outgrown w
  | _, _, _ => False

theorem calls_of_wp_marks {f : FuncId} {fn : Func} {c : Code} {args : Array Value} {w : World} {R : Ending → World → Prop}
    (hf : P.funcs[f]? = some fn) (hb : fn.body = some c)
    (h : c.wp P (bodyPostM P fn R) { tmps := args ++ Array.replicate (fn.ntmps - args.size) undef, defers := [] } w) : Calls P f args w R := by
  intro cs
  let b : Frame := { (default : Frame) with fn := f, kind := .normal }
  have henter : Frame.enter P f args .normal =
      b.at { tmps := args ++ Array.replicate (fn.ntmps - args.size) undef, defers := [] } [.code c] := by
    simp [Frame.enter, Frame.at, hf, hb, b]
  obtain ⟨e, a', w', hq, harr⟩ := h b [] cs
  rw [← henter] at harr
  cases e with
  | normal =>
    obtain ⟨e', w'', fr', hR, hs, hfn, hl⟩ := leaves_stepsM a'.defers .returning w' { b.at a' [] with mode := .returning } cs rfl rfl rfl hf rfl hq
    exact ⟨e', w'', fr', hR, Comes.of_steps (Steps.trans harr (.one step_end)) hs, hfn, hl⟩
  | ret =>
    obtain ⟨todo, hs₀⟩ := harr
    obtain ⟨e', w'', fr', hR, hs, hfn, hl⟩ := leaves_stepsM a'.defers .returning w' { b.at a' todo with mode := .returning } cs rfl rfl rfl hf rfl hq
    exact ⟨e', w'', fr', hR, Comes.of_steps hs₀ hs, hfn, hl⟩
  | panic chain =>
    obtain ⟨todo, hs₀⟩ := harr
    obtain ⟨e', w'', fr', hR, hs, hfn, hl⟩ := leaves_stepsM a'.defers (.panicking chain) w' { b.at a' todo with mode := .panicking chain } cs rfl rfl rfl hf rfl hq
    exact ⟨e', w'', fr', hR, Comes.of_steps hs₀ hs, hfn, hl⟩
  | exit id => exact hq.elim
  | goto l => exact hq.elim
  | outgrown => exact ⟨.outgrown, w', b, hq, harr.resolve_left (by simp [b]), rfl, trivial⟩
end

section
variable {sy : Sy} {G : Nat} {B : Kp} {w0 : World} {P : Program} {ρ ρ' : Ren} {cx : Cx} {env env2 : List CV} {loc : Loc} {a : Act} {st st2 : St} {w w' : World} {o : Oper} {call : Caller} {e : Ex}

/-- the statement, where no round is run -/
theorem rangeFunc_ok {f : Operand} {ps : Array Tmp} {assign body : Code} (hall : ∀ B w0, CallerSound sy G B w0 P call) (hr : (den P cx (.rangeFunc f ps assign body)).f call env st = .ok e env2 st2)
    (hs : SR sy G cx ρ env .nil a) (hd : DRel sy ρ st.dfs a.defers) (hw : WRel sy G B w0 ρ st w) :
    (Code.rangeFunc f ps assign body).wp P (fun e' a' w' => ∃ ρ', ρ.le ρ' ∧ e = .normal ∧ e' = .normal ∧ SR sy G cx ρ' env2 .nil a' ∧ DRel sy ρ' st2.dfs a'.defers ∧ WRel sy G B w0 ρ' st2 w') a w := by
  have hf := evRel hs hw f
  have hr' : (match (ev cx f).f env .nil with
    | .func fn fi ca => match fn with
      | .func g => match enters P g with
        | true => match st with
          | ⟨h, nx, d⟩ => forceN (fun nx' => match call g (fi ++ (.unk :: ca)) ⟨T.set h .coll nx, nx', ⟨.ptr nx 0, []⟩ :: d⟩ with
            | .ok _ st => .ok .normal env st
            | .pan _ _ => .err 291
            | .err n => .err n) (Nat.succ nx)
        | false => .err 292
      | _ => .err 293
    | _ => .err 294) = R.ok e env2 st2 := hr
  generalize (ev cx f).f env .nil = vf at *
  cases vf <;> simp only at hr' <;> try (cases hr'; done)
  rename_i fn fi ca
  cases fn <;> simp only at hr' <;> try (cases hr'; done)
  rename_i g
  cases hen : enters P g with
  | false => rw [hen] at hr'; cases hr'
  | true =>
    rw [hen] at hr'
    obtain ⟨h, nx, d⟩ := st
    simp only [forceN_eq] at hr'
    simp only [VRel] at hf
    obtain ⟨fi', ca', ef, h1, h2⟩ := hf
    refine wp_rangeFunc fun fn => ?_
    let rec_ : Loop := { state := .ready, pending := none, fn, tmps := a.tmps, params := ps, assign, body, defers := w.heap.size }
    have hw1 : WRel sy G B w0 (ρ.put nx ⟨w.heap.size, 0, 0, 0⟩) ⟨T.set h .coll nx, nx + 1, d⟩ (w.alloc (.deferred (some []))) :=
      hw.new rfl ⟨_, Ren.put_same _ _ _, hw.over, rfl, alloc_heap _ _⟩
    have hw2 := hw1.aside (O := .loop rec_)
    have hle := Ren.le_put (i := ⟨w.heap.size, 0, 0, 0⟩) hw.fresh
    have hargs : VRels sy (ρ.put nx ⟨w.heap.size, 0, 0, 0⟩) (fi ++ (.unk :: ca)) (fi' ++ (.func (.yield (w.heap.size + 1)) #[] #[] :: ca')) :=
      (h1.mono sy hle).append (VRels.cons (by simp [VRel]) (h2.mono sy hle))
    have hret := hall _ _ g _ ⟨T.set h .coll nx, nx + 1, ⟨.ptr nx 0, []⟩ :: d⟩ _ _ _ hargs hw2.dfs hen
    refine ⟨w.heap.size + 1, [{ target := .collected w.heap.size, args := #[] }], (w.alloc (.deferred (some []))).alloc (.loop rec_), { target := .fn (.func g) ca'.toArray, args := (fi' ++ [Value.func (.yield (w.heap.size + 1)) #[] #[]]).toArray },
      (w.alloc (.deferred (some []))).alloc (.loop rec_), g, (fi' ++ (.func (.yield (w.heap.size + 1)) #[] #[] :: ca')).toArray, (w.alloc (.deferred (some []))).alloc (.loop rec_), ?_, ?_, ?_, ?_⟩
    · simp [Instr.enterLoop, rec_]
    · simp only [resolve, ef, Deferred.ofValue, Sem.run_pure]
      congr 2
      simp [Act.eval]
    · simp only [invoke]
      rw [enters_run hen]
      congr 2
      simp
    · generalize hx : call g (fi ++ (.unk :: ca)) ⟨T.set h .coll nx, nx + 1, ⟨.ptr nx 0, []⟩ :: d⟩ = x at hr' hret
      cases x with
      | err n => cases hr'
      | pan v s => cases hr'
      | ok v st' =>
        simp only at hr'
        cases hr'
        obtain ⟨hdf, hcalls⟩ := hret
        refine Calls.mono hcalls fun e' w3 ⟨ρ1, v', he, hle1, hv, hw3⟩ => ?_
        have hbl : (w.alloc (.deferred (some []))).heap.size = w.heap.size + 1 := by simp
        have hl3 : w3.heap[w.heap.size + 1]? = some (.loop rec_) := by
          have := hw3.below.block (w.heap.size + 1) (.inr hbl.symm)
          rw [this, ← hbl]
          exact alloc_heap _ _
        refine ⟨v', { w3 with heap := w3.heap.setIfInBounds (w.heap.size + 1) (.loop { rec_ with state := .exhausted }) }, he, ?_, ρ1, Ren.le_trans hle hle1, rfl, rfl, ?_, ?_, ?_⟩
        · have hne : (rec_.state == .busy) = false := rfl
          simp only [Instr.endLoop, Instr.getLoop, Sem.run_bind, run_getObj hl3 (by simp), Result.andThen, Sem.run_pure, hne, Bool.false_eq_true, if_false, run_setObj hl3 (by simp)]
          rfl
        · exact ⟨hs.ng, hs.size, fun t => (hs.slot t).mono sy (Ren.le_trans hle hle1)⟩
        · rw [hdf]
          simp only [DRel]
          exact ⟨_, _, rfl, .inl ⟨nx, ⟨w.heap.size, 0, 0, 0⟩, rfl, hle1 _ _ (Ren.put_same _ _ _), rfl⟩, hd.mono (Ren.le_trans hle hle1)⟩
        · refine hw3.again.free (.inr hbl.symm) (fun k hk => ⟨.inl hk, fun e => ?_⟩) (fun _ h => h) hw.ro ?_
          · have := hw.base k hk; omega
          · have k1 : Kept B w0 (w.alloc (.deferred (some []))) := hw1.below
            have k2 : Kept B (w.alloc (.deferred (some []))) ((w.alloc (.deferred (some []))).alloc (.loop rec_)) := ⟨rfl, rfl, rfl, by simp, fun k hk => Below.heap_alloc _ _ k (hw1.base k hk)⟩
            have k3 : Kept B ((w.alloc (.deferred (some []))).alloc (.loop rec_)) w3 := ⟨hw3.below.os, hw3.below.tape, hw3.below.output, hw3.below.size, fun j hj => hw3.below.block j (.inl hj)⟩
            exact (k1.trans k2).trans k3
end
end Go.Proofs.YtbmbjaogcmokoaaGreatDoorX
