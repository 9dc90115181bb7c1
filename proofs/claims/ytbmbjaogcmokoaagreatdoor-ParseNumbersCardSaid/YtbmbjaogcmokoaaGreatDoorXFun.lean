/- Functions: what the executor says, the model does. -/
import Derived.Test.YtbmbjaogcmokoaaGreatDoorXRecover
namespace Go.Proofs.YtbmbjaogcmokoaaGreatDoorX
open Go Go.RowKit
set_option linter.unusedVariables false

section
variable {sy : Sy} {G : Nat} {B : Kp} {w0 : World} {P : Program} {ρ ρ' : Ren} {cx : Cx} {env env' : List CV} {loc : Loc} {a : Act} {st st' : St} {w w' : World} {o : Oper} {call : Caller} {ex : Ex}

/-- operands' values laid into slots -/
theorem initEnv_nth : ∀ (vars : List Nat) (args : List CV) (t k : Nat), pos vars t = some k → nth (initEnv vars args) k = args.getD t .unk
  | [], args, t, k, h => by cases h
  | u :: r, args, t, k, h => by
    unfold pos at h
    cases e : Nat.beq u t with
    | true =>
      rw [e] at h
      simp only [cond_true] at h
      cases h
      have : u = t := Nat.eq_of_beq_eq_true e
      subst this
      rfl
    | false =>
      rw [e] at h
      simp only [cond_false] at h
      cases hp : pos r t with
      | none => rw [hp] at h; cases h
      | some j =>
        rw [hp] at h
        simp only [Option.some.injEq] at h
        subst h
        exact initEnv_nth r args t j hp

theorem init_sr {args : List CV} {args' : List Value} {nt : Nat} {vars : List Nat} (h : VRels sy ρ args args') (hn : args.length ≤ nt) :
    SR sy G ⟨vars, nt, G⟩ ρ (initEnv vars args) .nil { tmps := args'.toArray ++ Array.replicate (nt - args'.toArray.size) undef, defers := [] } := by
  have hl := h.length
  refine ⟨rfl, by simp; omega, fun t => ?_⟩
  unfold look
  cases hp : pos vars t with
  | none => show VRel sy ρ .unk _; simp [VRel]
  | some k =>
    simp only
    rw [initEnv_nth vars args t k hp]
    cases hg : args[t]? with
    | none => simp [List.getD, hg, VRel]
    | some v =>
      obtain ⟨v', h1, h2⟩ := h.get t v hg
      have hlt : t < args'.length := by
        rcases Nat.lt_or_ge t args'.length with q | q
        · exact q
        · rw [List.getElem?_eq_none q] at h1; cases h1
      have e1 : args.getD t .unk = v := by simp [List.getD, hg]
      have e2 : (args'.toArray ++ Array.replicate (nt - args'.toArray.size) undef).getD t undef = v' := by
        have : (args'.toArray ++ Array.replicate (nt - args'.toArray.size) undef)[t]? = some v' := by
          rw [Array.getElem?_append_left (by simpa using hlt)]
          simpa using h1
        simp only [Array.getD_eq_getD_getElem?, this, Option.getD_some]
      rw [e1, e2]
      exact h2

/-! ## Results -/
def resRun (tmps : Array Value) : ResultVar → Sem Value
  | .tmp t => pure (tmps.getD t undef)
  | .cell a t => do loadVar t (← asAddr (tmps.getD a undef))

theorem resOne_rel {r : ResultVar} {K : CV → RV} {rv : RV} (hs : SR sy G cx ρ env .nil a) (hw : WRel sy G B w0 ρ st w) (hr : (resOne P cx r).f env st K = rv) :
    (∃ k, rv = .err k) ∨ ∃ v v', K v = rv ∧ VRel sy ρ v v' ∧ (resRun a.tmps r).run P w = .ok v' w := by
  unfold resOne at hr
  cases r with
  | tmp t =>
    simp only [evTmpAt_eq] at hr
    exact .inr ⟨_, _, hr, hs.slot t, rfl⟩
  | cell t ty =>
    simp only at hr
    cases hg : aggOf P ty with
    | none => rw [hg] at hr; exact .inl ⟨_, hr.symm⟩
    | some g =>
      cases hn : szOf P ty with
      | none => rw [hg, hn] at hr; exact .inl ⟨_, hr.symm⟩
      | some n =>
        rw [hg, hn] at hr
        simp only [evTmpAt_eq] at hr
        have hsl := hs.slot t
        generalize look cx env .nil t = v at hsl hr
        cases v <;> simp only at hr <;> try exact .inl ⟨_, hr.symm⟩
        rename_i b ofs
        simp only [VRel] at hsl
        obtain ⟨i, hi, e⟩ := hsl
        rcases run_loadVar hg hn hw hi hr with h | ⟨v, v', h1, h2, h3⟩
        · exact .inl h
        · exact .inr ⟨v, v', h1, h2, by simp only [resRun, Sem.run_bind, e, asAddr, Sem.run_pure, Result.andThen, h3]⟩
theorem resL_rel (hs : SR sy G cx ρ env .nil a) (hw : WRel sy G B w0 ρ st w) : ∀ (l : List ResultVar) {K : List CV → RV} {rv : RV}, (resL P cx l).f env st K = rv →
    (∃ k, rv = .err k) ∨ ∃ vs vs', K vs = rv ∧ vs.length = l.length ∧ VRels sy ρ vs vs' ∧ (l.mapM (resRun a.tmps)).run P w = .ok vs' w
  | [], K, rv, hr => .inr ⟨[], [], hr, rfl, VRels.nil, by simp⟩
  | r :: l, K, rv, hr => by
    have hr' : (resOne P cx r).f env st (fun v => (resL P cx l).f env st fun vs => K (v :: vs)) = rv := hr
    rcases resOne_rel hs hw hr' with h | ⟨v, v', h1, h2, h3⟩
    · exact .inl h
    · rcases resL_rel hs hw l h1 with h | ⟨vs, vs', k1, k0, k2, k3⟩
      · exact .inl h
      · exact .inr ⟨v :: vs, v' :: vs', k1, by simp [k0], VRels.cons h2 k2, by simp [List.mapM_cons, h3, k3]⟩
theorem results_run {fn : Func} {tmps : Array Value} {vs : List Value} (h : (fn.results.toList.mapM (resRun tmps)).run P w = .ok vs w) :
    (results fn tmps).run P w = .ok (if h : vs.toArray.size = 1 then vs.toArray[0] else .tuple vs.toArray) w := by
  have e : results fn tmps = (do
      let vs ← fn.results.mapM (resRun tmps)
      pure (if h : vs.size = 1 then vs[0] else .tuple vs)) := by
    unfold results
    congr 1
  rw [e, Array.mapM_eq_mapM_toList]
  simp [h]
theorem res_ok {fn : Func} {rv : RV} (hs : SR sy G cx ρ env .nil a) (hw : WRel sy G B w0 ρ st w) (hr : (resF P cx fn.results.toList).f env st = rv) :
    (∃ k, rv = .err k) ∨ ∃ v v', rv = .ok v st ∧ VRel sy ρ v v' ∧ (results fn a.tmps).run P w = .ok v' w := by
  generalize hl : fn.results.toList = l at hr
  have many : (resL P cx l).f env st (fun vs => .ok (.tup vs) st) = rv → l.length ≠ 1 → (∃ k, rv = .err k) ∨ ∃ v v', rv = .ok v st ∧ VRel sy ρ v v' ∧ (results fn a.tmps).run P w = .ok v' w := by
    intro h hne
    rcases resL_rel hs hw l h with h | ⟨vs, vs', h1, h0, h2, h3⟩
    · exact .inl h
    · refine .inr ⟨_, .tuple vs'.toArray, h1.symm, by simp only [VRel]; exact ⟨vs', rfl, h2⟩, ?_⟩
      rw [results_run (by rw [hl]; exact h3)]
      have hlen : vs'.length = l.length := h2.length.trans h0
      rw [dif_neg (by simpa [hlen] using hne)]
  match l, hr, many with
  | [], hr, many => exact many hr (by simp)
  | [r], hr, _ =>
    rcases resOne_rel hs hw hr with h | ⟨v, v', h1, h2, h3⟩
    · exact .inl h
    · refine .inr ⟨v, v', h1.symm, h2, ?_⟩
      rw [results_run (vs := [v']) (by rw [hl]; simp [List.mapM_cons, h3])]
      simp
  | r :: r2 :: l, hr, many => exact many hr (by simp)

/-! ## Calls -/
def DrawOk (sy : Sy) (G : Nat) (B : Kp) (w0 : World) (P : Program) : Prop :=
  ∀ (cx : Cx) (call : Caller), (∀ B w0, CallerSound sy G B w0 P call) → ∀ (id : Nat) (ops : Array Oper), Den sy G B w0 P cx (.region id ops true) ((den P cx (.region id ops true)).f call)

theorem resOne_keep {r : ResultVar} {K : CV → RV} {x : RV} (h : (resOne P cx r).f env st K = x) : (∃ k, x = .err k) ∨ ∃ v, K v = x := by
  unfold resOne at h
  cases r with
  | tmp t => exact .inr ⟨_, h⟩
  | cell t ty =>
    simp only at h
    split at h
    · simp only at h
      split at h
      · rename_i g n _ _ b of _
        unfold loadAt at h
        split at h
        · split at h
          · split at h
            · exact .inr ⟨_, h⟩
            · exact .inl ⟨_, h.symm⟩
          · split at h
            · exact .inr ⟨_, h⟩
            · exact .inl ⟨_, h.symm⟩
        · exact .inl ⟨_, h.symm⟩
      · exact .inl ⟨_, h.symm⟩
    · exact .inl ⟨_, h.symm⟩
theorem resL_keep : ∀ {l : List ResultVar} {K : List CV → RV} {x : RV}, (resL P cx l).f env st K = x → (∃ k, x = .err k) ∨ ∃ v, K v = x
  | [], K, x, h => .inr ⟨[], h⟩
  | r :: l, K, x, h => by
    have h' : (resOne P cx r).f env st (fun v => (resL P cx l).f env st fun vs => K (v :: vs)) = x := h
    rcases resOne_keep h' with h | ⟨v, h⟩
    · exact .inl h
    · rcases resL_keep h with h | ⟨vs, h⟩
      · exact .inl h
      · exact .inr ⟨_, h⟩
theorem resF_keep {l : List ResultVar} {x : RV} (h : (resF P cx l).f env st = x) : (∃ k, x = .err k) ∨ ∃ v, x = .ok v st := by
  unfold resF at h
  split at h
  · rcases resOne_keep h with h | ⟨v, h⟩
    · exact .inl h
    · exact .inr ⟨v, h.symm⟩
  · rcases resL_keep h with h | ⟨v, h⟩
    · exact .inl h
    · exact .inr ⟨_, h.symm⟩

/-- what a call's answer says of its ending -/
def RetR (sy : Sy) (G : Nat) (B : Kp) (w0 : World) (ρ : Ren) : RV → Ending → World → Prop
  | .err _, _, _ => True
  | .ok v st, e, w => ∃ ρ' v', e = .returned v' ∧ ρ.le ρ' ∧ VRel sy ρ' v v' ∧ WRel sy G B w0 ρ' st w
  | .pan v st, e, w => ∃ ρ' v', e = .panicked [{ v := v', recovered := false }] ∧ ρ.le ρ' ∧ VRel sy ρ' v v' ∧ WRel sy G B w0 ρ' st w

theorem settle_ok {m : Option Md} {u : FrameMode} (h : MdRel sy ρ m u) : MdRel sy ρ (openM (settleM m)) (settle u) := by
  cases m with
  | none =>
    have : u = .returning := h
    subst this
    exact rfl
  | some x =>
    obtain ⟨v, r⟩ := x
    obtain ⟨v', rfl, hv⟩ := h
    cases r with
    | true => exact rfl
    | false => exact ⟨v', rfl, hv⟩

theorem funD_ok (hdraw : DrawOk sy G B w0 P) (hall : ∀ B w0, CallerSound sy G B w0 P call) (hint : Nat → List Nat) {f : Nat} {args : List CV} {args' : List Value} {m m' : Option CV} {h h' : T Obj} {n n' : Nat} {u : FrameMode}
    (hr : (funD P G hint f).f call args m h n = .ok m' h' n') (hargs : VRels sy ρ args args') (hw : WRel sy G B w0 ρ ⟨h, n, []⟩ w) (hm : MdRel sy ρ (openM m) u) :
    enters P f = true ∧ CallsD P f args'.toArray u w fun e u' w' => ∃ v ρ', e = .returned v ∧ ρ.le ρ' ∧ WRel sy G B w0 ρ' ⟨h', n', []⟩ w' ∧ MdRel sy ρ' (openM m') (settle u') := by
  unfold funD at hr
  cases hen : enters P f with
  | false => rw [hen] at hr; cases hr
  | true =>
    refine ⟨rfl, ?_⟩
    rw [hen] at hr
    cases hf : P.funcs[f]? with
    | none => rw [hf] at hr; cases hr
    | some fn =>
      rw [hf] at hr
      simp only at hr
      cases hb : fn.body with
      | none => rw [hb] at hr; cases hr
      | some c =>
        rw [hb] at hr
        simp only at hr
        cases hle : Nat.ble (len args) fn.ntmps with
        | false => rw [hle] at hr; cases hr
        | true =>
          rw [hle] at hr
          simp only [cond_true] at hr
          have hn : args.length ≤ fn.ntmps := by rw [← len_eq]; simpa [Nat.ble_eq] using hle
          have hsr := init_sr (G := G) (vars := hint f) hargs hn
          have hden := den_ok (cx := ⟨hint f, fn.ntmps, G⟩) hall (hdraw _ _ hall)
          cases hrun : (denS P ⟨hint f, fn.ntmps, G⟩ c).f call (initEnv (hint f) args) ⟨h, n, []⟩ (openM m) with
          | err k => rw [hrun] at hr; cases hr
          | ok e env1 st1 m1 =>
            rw [hrun] at hr
            obtain ⟨h1, n1, ds1⟩ := st1
            simp only [endD] at hr
            cases ds1 with
            | cons x y => cases hr
            | nil =>
              refine callsD_of_wpS hf hb fun c₀ cs hu => ?_
              subst hu
              have hS := denS_ok (hall B w0) hden c _ _ _ _ _ _ _ ρ c₀.mode _ w c₀ cs hrun hsr rfl hw hm
              intro b k hb1 hb2
              obtain ⟨e', a', cs', w', ⟨ρ1, u1, q1, q2, q3, q4, q5, q6, rfl⟩, harr⟩ := hS b k hb1 hb2
              refine ⟨e', a', _, w', ?_, harr⟩
              have hdf : a'.defers = [] := q4
              have fin : ∀ {x : RV}, (resF P ⟨hint f, fn.ntmps, G⟩ fn.results.toList).f env1 ⟨h1, n1, []⟩ = x → (match x with | .ok _ _ => RD.ok (settleM m1) h1 n1 | _ => .err 206) = .ok m' h' n' ∨ (match x with | .ok _ _ => RD.ok (settleM m1) h1 n1 | _ => .err 207) = .ok m' h' n' →
                  ∃ v, (results fn a'.tmps).run P w' = .ok v w' ∧ ∃ v0 ρ', Ending.returned v = .returned v0 ∧ ρ.le ρ' ∧ WRel sy G B w0 ρ' ⟨h', n', []⟩ w' ∧ MdRel sy ρ' (openM m') (settle u1) := fun {x} hx hor => by
                rcases res_ok q3 q5 hx with ⟨k, rfl⟩ | ⟨v, v', rfl, _, hres⟩
                · rcases hor with h | h <;> cases h
                · refine ⟨v', hres, v', ρ1, rfl, q1, ?_⟩
                  rcases hor with h | h <;> (cases h; exact ⟨q5, settle_ok q6⟩)
              cases e with
              | normal =>
                have he : e' = .normal := q2
                subst he
                obtain ⟨v, r1, r2⟩ := fin rfl (.inl hr)
                exact ⟨hdf, u1, rfl, v, r1, r2⟩
              | ret =>
                have he : e' = .ret := q2
                subst he
                obtain ⟨v, r1, r2⟩ := fin rfl (.inr hr)
                exact ⟨hdf, u1, rfl, v, r1, r2⟩
              | exit id => cases hr
              | panic v => cases hr

theorem leave_ok (hdraw : DrawOk sy G B w0 P) (hall : ∀ B w0, CallerSound sy G B w0 P call) (hint : Nat → List Nat) {fn : Func} {d : List Dfr} {tmps : Array Value} {r : RV} (hne : ∀ k, r ≠ .err k) : ∀ (ds : List Dfr) (ds' : List Deferred) (m : Option CV) (u : FrameMode) (h : T Obj) (n : Nat) (ρ1 : Ren) (w : World),
    leaveF P G hint cx fn.results.toList call d env ds m h n = r → ρ.le ρ1 → DRel sy ρ1 ds ds' → WRel sy G B w0 ρ1 ⟨h, n, []⟩ w → MdRel sy ρ1 (openM m) u → SR sy G cx ρ1 env .nil { tmps := tmps, defers := [] } → LeavesM P fn tmps (RetR sy G B w0 ρ r) ds' u w
  | [], ds', m, u, h, n, ρ1, w, hr, hle, hd, hw, hm, hs => by
    have : ds' = [] := hd
    subst this
    cases m with
    | none =>
      have hu : u = .returning := hm
      subst hu
      have hr' : (resF P cx fn.results.toList).f env ⟨h, n, d⟩ = r := hr
      rcases res_ok hs hw.dfs hr' with ⟨k, hk⟩ | ⟨v, v', rfl, hv, hres⟩
      · exact absurd hk (hne k)
      · exact ⟨v', hres, ρ1, v', rfl, hle, hv, hw.dfs⟩
    | some v =>
      obtain ⟨v', hu, hv⟩ := hm
      subst hu
      have hr' : RV.pan v ⟨h, n, d⟩ = r := hr
      subst hr'
      exact ⟨ρ1, v', rfl, hle, hv, hw.dfs⟩
  | x :: ds, ds', m, u, h, n, ρ1, w, hr, hle, hd, hw, hm, hs => by
    simp only [DRel] at hd
    obtain ⟨y, s, rfl, hone, hd2⟩ := hd
    have hr' : (match oneD P G hint call x m h n with
      | .ok m h n => leaveF P G hint cx fn.results.toList call d env ds m h n
      | .err n => .err n) = r := hr
    obtain ⟨xf, xa⟩ := x
    have hrun : u ≠ .run := by
      cases m with
      | none => have hu : u = .returning := hm; rw [hu]; intro h; cases h
      | some v => obtain ⟨v', hu, _⟩ := hm; rw [hu]; intro h; cases h
    rcases hone with ⟨b, i, e1, e2, rfl⟩ | ⟨g, fi, ca, fi', ca', as', e1, e2, e3, e4, rfl⟩
    · simp only at e1
      subst e1
      have ho : oneD P G hint call ⟨.ptr b 0, xa⟩ m h n = (match h.get b with
        | some ob => match ob with
          | .coll => .ok m (T.set h .dead b) n
          | _ => .err 215
        | none => .err 216) := rfl
      rw [ho] at hr'
      cases hg : h.get b with
      | none => rw [hg] at hr'; exact absurd hr'.symm (hne _)
      | some ob =>
        rw [hg] at hr'
        cases ob <;> simp only at hr' <;> try exact absurd hr'.symm (hne _)
        obtain ⟨i', k1, k2, k3, k4⟩ := hw.obj b _ hg
        rw [e2] at k1; cases k1
        have hw1 : WRel sy G B w0 ρ1 ⟨T.set h .dead b, n, []⟩ { w with heap := w.heap.setIfInBounds i.blk (.deferred none) } := hw.update hg rfl e2 k2 (setObj_below k2) (fun k hk => setObj_ne hk) trivial
        refine ⟨hrun, .inl ⟨i.blk, _, rfl, ?_, leave_ok hdraw hall hint hne ds s m u (T.set h .dead b) n ρ1 _ hr' hle hd2 hw1 hm hs⟩⟩
        simp only [Instr.takeDeferred, Sem.run_bind, run_getObj k4 (by simp), Result.andThen, run_setObj k4 (by simp), Sem.run_pure]
    simp only at e1 e4
    subst e1
    have ho : oneD P G hint call ⟨.func (.func g) fi ca, xa⟩ m h n = (funD P G hint g).f call (fi ++ xa ++ ca) m h n := rfl
    rw [ho] at hr'
    cases hx : (funD P G hint g).f call (fi ++ xa ++ ca) m h n with
    | err k => rw [hx] at hr'; exact absurd hr'.symm (hne k)
    | ok m1 h1 n1 =>
      rw [hx] at hr'
      obtain ⟨hen, hcd⟩ := funD_ok hdraw hall hint hx ((e2.append e4).append e3) hw hm
      refine ⟨hrun, .inr ⟨.func g, _, g, (fi' ++ as' ++ ca').toArray, rfl, ?_, ?_⟩⟩
      · simp only [invoke]
        rw [enters_run hen]
        congr 2
        simp
      · intro c cs hc
        obtain ⟨e, u', w', fr, ⟨v, ρ2, rfl, q1, q2, q3⟩, hrest⟩ := hcd c cs hc
        exact ⟨_, u', w', fr, leave_ok hdraw hall hint hne ds s m1 (settle u') h1 n1 ρ2 w' hr' (Ren.le_trans hle q1) (hd2.mono q1) q2 q3 (hs.mono q1), hrest⟩

theorem leaveF_dfs {fn : Func} {hint : Nat → List Nat} {d : List Dfr} {v : CV} {st' : St} : ∀ (ds : List Dfr) (m : Option CV) (h : T Obj) (n : Nat), (leaveF P G hint cx fn.results.toList call d env ds m h n = .ok v st' ∨ leaveF P G hint cx fn.results.toList call d env ds m h n = .pan v st') → st'.dfs = d
  | [], m, h, n, hr => by
    cases m with
    | none =>
      have hr' : (resF P cx fn.results.toList).f env ⟨h, n, d⟩ = .ok v st' ∨ (resF P cx fn.results.toList).f env ⟨h, n, d⟩ = .pan v st' := hr
      rcases resF_keep (P := P) (cx := cx) (env := env) (st := ⟨h, n, d⟩) (l := fn.results.toList) rfl with ⟨k, hk⟩ | ⟨x, hx⟩
      · rw [hk] at hr'; rcases hr' with h | h <;> cases h
      · rw [hx] at hr'; rcases hr' with h | h <;> cases h; rfl
    | some x =>
      have hr' : RV.pan x ⟨h, n, d⟩ = .ok v st' ∨ RV.pan x ⟨h, n, d⟩ = .pan v st' := hr
      rcases hr' with h | h <;> cases h
      rfl
  | x :: ds, m, h, n, hr => by
    have hr' : (match oneD P G hint call x m h n with
      | .ok m h n => leaveF P G hint cx fn.results.toList call d env ds m h n
      | .err n => .err n) = .ok v st' ∨ (match oneD P G hint call x m h n with
      | .ok m h n => leaveF P G hint cx fn.results.toList call d env ds m h n
      | .err n => .err n) = .pan v st' := hr
    cases hx : oneD P G hint call x m h n with
    | err k => rw [hx] at hr'; rcases hr' with h | h <;> cases h
    | ok m1 h1 n1 =>
      rw [hx] at hr'
      exact leaveF_dfs ds m1 h1 n1 hr'

theorem fun_ok (hdraw : DrawOk sy G B w0 P) (hall : ∀ B w0, CallerSound sy G B w0 P call) (hint : Nat → List Nat) : CallerSound sy G B w0 P (fun f args st => (funF P G hint f).f call args st) := by
  intro f args st ρ w args' hargs hw hen
  simp only
  generalize hr : (funF P G hint f).f call args st = r
  unfold funF at hr
  cases hf : P.funcs[f]? with
  | none => rw [hf] at hr; subst hr; exact trivial
  | some fn =>
    rw [hf] at hr
    simp only at hr
    cases hb : fn.body with
    | none => rw [hb] at hr; subst hr; exact trivial
    | some c =>
      rw [hb] at hr
      obtain ⟨h, n, d⟩ := st
      simp only at hr
      cases hle : Nat.ble (len args) fn.ntmps with
      | false => rw [hle] at hr; subst hr; exact trivial
      | true =>
        rw [hle] at hr
        simp only [cond_true] at hr
        have hn : args.length ≤ fn.ntmps := by rw [← len_eq]; simpa [Nat.ble_eq] using hle
        have hsr := init_sr (G := G) (vars := hint f) hargs hn
        have hden := den_ok (cx := ⟨hint f, fn.ntmps, G⟩) hall (hdraw _ _ hall) c
        cases hrun : (den P ⟨hint f, fn.ntmps, G⟩ c).f call (initEnv (hint f) args) ⟨h, n, []⟩ with
        | err k => rw [hrun] at hr; simp only [endF] at hr; subst hr; exact trivial
        | ok e env1 st1 =>
          rw [hrun] at hr
          have hwp := hden _ _ e env1 st1 ρ _ w hrun hsr (by exact rfl) hw.dfs
          obtain ⟨h1, n1, d1⟩ := st1
          have main : (∀ k, r ≠ .err k) → Calls P f args'.toArray w (RetR sy G B w0 ρ r) := fun hne => by
            refine calls_of_wp_marks hf hb (Code.wp_mono (fun e' a' w' hp => ?_) hwp)
            obtain ⟨ρ1, hle1, hex, hs1, hd1, hw1⟩ := hp
            have hs2 : SR sy G ⟨hint f, fn.ntmps, G⟩ ρ1 env1 .nil { tmps := a'.tmps, defers := [] } := ⟨hs1.ng, hs1.size, hs1.slot⟩
            cases e with
            | normal =>
              have he : e' = .normal := hex
              subst he
              exact leave_ok hdraw hall hint hne d1 a'.defers none .returning h1 n1 ρ1 w' hr hle1 hd1 hw1.dfs rfl hs2
            | ret =>
              have he : e' = .ret := hex
              subst he
              exact leave_ok hdraw hall hint hne d1 a'.defers none .returning h1 n1 ρ1 w' hr hle1 hd1 hw1.dfs rfl hs2
            | exit id => simp only [endF] at hr; exact absurd hr.symm (hne _)
            | panic v =>
              obtain ⟨v', rfl, hv⟩ := hex
              exact leave_ok hdraw hall hint hne d1 a'.defers (some v) (.panicking [⟨v', false, false⟩]) h1 n1 ρ1 w' hr hle1 hd1 hw1.dfs ⟨v', rfl, hv⟩ hs2
          have hdf : ∀ v st', (r = .ok v st' ∨ r = .pan v st') → st'.dfs = d := fun v st' hor => by
            cases e with
            | normal => exact leaveF_dfs d1 none h1 n1 (by have hr' : leaveF P G hint ⟨hint f, fn.ntmps, G⟩ fn.results.toList call d env1 d1 none h1 n1 = r := hr; rw [hr']; exact hor)
            | ret => exact leaveF_dfs d1 none h1 n1 (by have hr' : leaveF P G hint ⟨hint f, fn.ntmps, G⟩ fn.results.toList call d env1 d1 none h1 n1 = r := hr; rw [hr']; exact hor)
            | exit id => simp only [endF] at hr; rcases hor with h | h <;> (rw [h] at hr; cases hr)
            | panic v => exact leaveF_dfs d1 (some v) h1 n1 (by have hr' : leaveF P G hint ⟨hint f, fn.ntmps, G⟩ fn.results.toList call d env1 d1 (some v) h1 n1 = r := hr; rw [hr']; exact hor)
          cases r with
          | err k => exact trivial
          | ok v st' => exact ⟨hdf v st' (.inl rfl), main fun k h => by cases h⟩
          | pan v st' => exact ⟨hdf v st' (.inr rfl), main fun k h => by cases h⟩

theorem run_ok (hdraw : ∀ B w0, DrawOk sy G B w0 P) (hint : Nat → List Nat) : ∀ n B w0, CallerSound sy G B w0 P (run P G hint n)
  | 0 => fun B w0 f args st ρ w args' _ _ _ => trivial
  | n + 1 => fun B w0 => fun_ok (hdraw B w0) (run_ok hdraw hint n) hint
end
end Go.Proofs.YtbmbjaogcmokoaaGreatDoorX
