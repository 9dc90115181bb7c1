/- Functions: what the executor says, the model does. -/
import Derived.Test.YtonlahgagjejeaaGreatDoorXRun
namespace Go.Proofs.YtonlahgagjejeaaGreatDoorX
open Go Go.RowKit
set_option linter.unusedVariables false

section
variable {sy : Nat → ByteArray} {G B : Nat} {w0 : World} {P : Program} {ρ ρ' : Ren} {cx : Cx} {env env' : List CV} {loc : Loc} {a : Act} {st st' : St} {w w' : World} {o : Oper} {call : Caller} {ex : Ex}

/-- operands' values laid into slots -/
theorem initEnv_nth : ∀ (vars : List Nat) (args : List CV) (t k : Nat), pos vars t = some k → nth (initEnv vars args) k = args.getD t .unk
  | [], args, t, k, h => by cases h
  | u :: r, args, t, k, h => by
    unfold pos at h
    cases e : Nat.beq u t with
    | true =>
      rw [e] at h
      simp only [cond_true] at h
      cases h
      have : u = t := Nat.eq_of_beq_eq_true e
      subst this
      rfl
    | false =>
      rw [e] at h
      simp only [cond_false] at h
      cases hp : pos r t with
      | none => rw [hp] at h; cases h
      | some j =>
        rw [hp] at h
        simp only [Option.some.injEq] at h
        subst h
        exact initEnv_nth r args t j hp

theorem init_sr {args : List CV} {args' : List Value} {nt : Nat} {vars : List Nat} (h : VRels sy ρ args args') (hn : args.length ≤ nt) :
    SR sy G ⟨vars, nt, G⟩ ρ (initEnv vars args) .nil { tmps := args'.toArray ++ Array.replicate (nt - args'.toArray.size) undef, defers := [] } := by
  have hl := h.length
  refine ⟨rfl, by simp; omega, fun t => ?_⟩
  unfold look
  cases hp : pos vars t with
  | none => show VRel sy ρ .unk _; simp [VRel]
  | some k =>
    simp only
    rw [initEnv_nth vars args t k hp]
    cases hg : args[t]? with
    | none => simp [List.getD, hg, VRel]
    | some v =>
      obtain ⟨v', h1, h2⟩ := h.get t v hg
      have hlt : t < args'.length := by
        rcases Nat.lt_or_ge t args'.length with q | q
        · exact q
        · rw [List.getElem?_eq_none q] at h1; cases h1
      have e1 : args.getD t .unk = v := by simp [List.getD, hg]
      have e2 : (args'.toArray ++ Array.replicate (nt - args'.toArray.size) undef).getD t undef = v' := by
        have : (args'.toArray ++ Array.replicate (nt - args'.toArray.size) undef)[t]? = some v' := by
          rw [Array.getElem?_append_left (by simpa using hlt)]
          simpa using h1
        simp only [Array.getD_eq_getD_getElem?, this, Option.getD_some]
      rw [e1, e2]
      exact h2

/-! ## Results -/
def resRun (tmps : Array Value) : ResultVar → Sem Value
  | .tmp t => pure (tmps.getD t undef)
  | .cell a t => do loadVar t (← asAddr (tmps.getD a undef))

theorem resOne_rel {r : ResultVar} {K : CV → RV} {rv : RV} (hs : SR sy G cx ρ env .nil a) (hw : WRel sy G B w0 ρ st w) (hr : (resOne P cx r).f env st K = rv) :
    (∃ k, rv = .err k) ∨ ∃ v v', K v = rv ∧ VRel sy ρ v v' ∧ (resRun a.tmps r).run P w = .ok v' w := by
  unfold resOne at hr
  cases r with
  | tmp t =>
    simp only [evTmpAt_eq] at hr
    exact .inr ⟨_, _, hr, hs.slot t, rfl⟩
  | cell t ty =>
    simp only at hr
    cases hg : aggOf P ty with
    | none => rw [hg] at hr; exact .inl ⟨_, hr.symm⟩
    | some g =>
      cases hn : szOf P ty with
      | none => rw [hg, hn] at hr; exact .inl ⟨_, hr.symm⟩
      | some n =>
        rw [hg, hn] at hr
        simp only [evTmpAt_eq] at hr
        have hsl := hs.slot t
        generalize look cx env .nil t = v at hsl hr
        cases v <;> simp only at hr <;> try exact .inl ⟨_, hr.symm⟩
        rename_i b ofs
        simp only [VRel] at hsl
        obtain ⟨i, hi, e⟩ := hsl
        rcases run_loadVar hg hn hw hi hr with h | ⟨v, v', h1, h2, h3⟩
        · exact .inl h
        · exact .inr ⟨v, v', h1, h2, by simp only [resRun, Sem.run_bind, e, asAddr, Sem.run_pure, Result.andThen, h3]⟩
theorem resL_rel (hs : SR sy G cx ρ env .nil a) (hw : WRel sy G B w0 ρ st w) : ∀ (l : List ResultVar) {K : List CV → RV} {rv : RV}, (resL P cx l).f env st K = rv →
    (∃ k, rv = .err k) ∨ ∃ vs vs', K vs = rv ∧ vs.length = l.length ∧ VRels sy ρ vs vs' ∧ (l.mapM (resRun a.tmps)).run P w = .ok vs' w
  | [], K, rv, hr => .inr ⟨[], [], hr, rfl, VRels.nil, by simp⟩
  | r :: l, K, rv, hr => by
    have hr' : (resOne P cx r).f env st (fun v => (resL P cx l).f env st fun vs => K (v :: vs)) = rv := hr
    rcases resOne_rel hs hw hr' with h | ⟨v, v', h1, h2, h3⟩
    · exact .inl h
    · rcases resL_rel hs hw l h1 with h | ⟨vs, vs', k1, k0, k2, k3⟩
      · exact .inl h
      · exact .inr ⟨v :: vs, v' :: vs', k1, by simp [k0], VRels.cons h2 k2, by simp [List.mapM_cons, h3, k3]⟩
theorem results_run {fn : Func} {tmps : Array Value} {vs : List Value} (h : (fn.results.toList.mapM (resRun tmps)).run P w = .ok vs w) :
    (results fn tmps).run P w = .ok (if h : vs.toArray.size = 1 then vs.toArray[0] else .tuple vs.toArray) w := by
  have e : results fn tmps = (do
      let vs ← fn.results.mapM (resRun tmps)
      pure (if h : vs.size = 1 then vs[0] else .tuple vs)) := by
    unfold results
    congr 1
  rw [e, Array.mapM_eq_mapM_toList]
  simp [h]
theorem res_ok {fn : Func} {rv : RV} (hs : SR sy G cx ρ env .nil a) (hw : WRel sy G B w0 ρ st w) (hr : (resF P cx fn.results.toList).f env st = rv) :
    (∃ k, rv = .err k) ∨ ∃ v v', rv = .ok v st ∧ VRel sy ρ v v' ∧ (results fn a.tmps).run P w = .ok v' w := by
  generalize hl : fn.results.toList = l at hr
  have many : (resL P cx l).f env st (fun vs => .ok (.tup vs) st) = rv → l.length ≠ 1 → (∃ k, rv = .err k) ∨ ∃ v v', rv = .ok v st ∧ VRel sy ρ v v' ∧ (results fn a.tmps).run P w = .ok v' w := by
    intro h hne
    rcases resL_rel hs hw l h with h | ⟨vs, vs', h1, h0, h2, h3⟩
    · exact .inl h
    · refine .inr ⟨_, .tuple vs'.toArray, h1.symm, by simp only [VRel]; exact ⟨vs', rfl, h2⟩, ?_⟩
      rw [results_run (by rw [hl]; exact h3)]
      have hlen : vs'.length = l.length := h2.length.trans h0
      rw [dif_neg (by simpa [hlen] using hne)]
  match l, hr, many with
  | [], hr, many => exact many hr (by simp)
  | [r], hr, _ =>
    rcases resOne_rel hs hw hr with h | ⟨v, v', h1, h2, h3⟩
    · exact .inl h
    · refine .inr ⟨v, v', h1.symm, h2, ?_⟩
      rw [results_run (vs := [v']) (by rw [hl]; simp [List.mapM_cons, h3])]
      simp
  | r :: r2 :: l, hr, many => exact many hr (by simp)

/-! ## Calls -/
def DrawOk (sy : Nat → ByteArray) (G B : Nat) (w0 : World) (P : Program) : Prop :=
  ∀ (cx : Cx) (call : Caller), CallerSound sy G B w0 P call → ∀ (id : Nat) (ops : Array Oper), Den sy G B w0 P cx (.region id ops true) ((den P cx (.region id ops true)).f call)

theorem fun_ok (hdraw : DrawOk sy G B w0 P) (hcall : CallerSound sy G B w0 P call) (hint : Nat → List Nat) : CallerSound sy G B w0 P (fun f args st => (funF P G hint f).f call args st) := by
  intro f args st ρ w args' hargs hw hen
  simp only
  generalize hr : (funF P G hint f).f call args st = r
  unfold funF at hr
  cases hf : P.funcs[f]? with
  | none => rw [hf] at hr; subst hr; exact trivial
  | some fn =>
    rw [hf] at hr
    simp only at hr
    cases hb : fn.body with
    | none => rw [hb] at hr; subst hr; exact trivial
    | some c =>
      rw [hb] at hr
      obtain ⟨h, n, d⟩ := st
      simp only at hr
      cases hle : Nat.ble (len args) fn.ntmps with
      | false => rw [hle] at hr; subst hr; exact trivial
      | true =>
        rw [hle] at hr
        simp only [cond_true] at hr
        have hn : args.length ≤ fn.ntmps := by rw [← len_eq]; simpa [Nat.ble_eq] using hle
        have hsr := init_sr (G := G) (vars := hint f) hargs hn
        have hden := den_ok (cx := ⟨hint f, fn.ntmps, G⟩) hcall (hdraw _ _ hcall) c
        generalize hrun : (den P ⟨hint f, fn.ntmps, G⟩ c).f call (initEnv (hint f) args) ⟨h, n, []⟩ = rr at hr
        cases rr with
        | err k => simp only [endF] at hr; subst hr; exact trivial
        | ok e env1 st1 =>
          have hwp := hden _ _ e env1 st1 ρ _ w hrun hsr (by exact rfl) hw.dfs
          obtain ⟨h1, n1, d1⟩ := st1
          cases d1 with
          | cons x y => simp only [endF] at hr; subst hr; exact trivial
          | nil =>
            -- the ending with a result
            have ret : ∀ (eb : Exit), (eb = .normal ∨ eb = .ret) → (∀ e' a' w', PostC sy G B w0 ⟨hint f, fn.ntmps, G⟩ ρ e env1 ⟨h1, n1, []⟩ e' a' w' → e' = eb) →
                (resF P ⟨hint f, fn.ntmps, G⟩ fn.results.toList).f env1 ⟨h1, n1, d⟩ = r → RetOk sy G B w0 P ρ f args' ⟨h, n, d⟩ w r := by
              intro eb hor heb hres
              have hv : ∀ (ρ1 : Ren) (a1 : Act) (w1 : World), SR sy G ⟨hint f, fn.ntmps, G⟩ ρ1 env1 .nil a1 → WRel sy G B w0 ρ1 ⟨h1, n1, []⟩ w1 →
                  (∃ k, r = .err k) ∨ ∃ v v', r = .ok v ⟨h1, n1, d⟩ ∧ VRel sy ρ1 v v' ∧ (results fn a1.tmps).run P w1 = .ok v' w1 := fun ρ1 a1 w1 hs1 hw1 => res_ok hs1 hw1.dfs hres
              cases r with
              | err k => exact trivial
              | pan v st2 =>
                exfalso
                have : ∀ (ρ1 : Ren) (a1 : Act) (w1 : World), SR sy G ⟨hint f, fn.ntmps, G⟩ ρ1 env1 .nil a1 → WRel sy G B w0 ρ1 ⟨h1, n1, []⟩ w1 → False := fun ρ1 a1 w1 hs1 hw1 => by
                  rcases hv ρ1 a1 w1 hs1 hw1 with ⟨k, hk⟩ | ⟨v, v', hk, _⟩ <;> cases hk
                obtain ⟨e', a', w', ⟨ρ1, _, _, hs1, _, hw1⟩, _⟩ := hwp default [] []
                exact this ρ1 a' w' hs1 hw1
              | ok v st2 =>
                have hst : st2 = ⟨h1, n1, d⟩ := by
                  obtain ⟨e', a', w', ⟨ρ1, _, _, hs1, _, hw1⟩, _⟩ := hwp default [] []
                  rcases hv ρ1 a' w' hs1 hw1 with ⟨k, hk⟩ | ⟨v, v', hk, _⟩
                  · cases hk
                  · cases hk; rfl
                subst hst
                refine ⟨rfl, calls_of_wp hf hb (Code.wp_mono (fun e' a' w' hp => ?_) hwp)⟩
                have he' := heb e' a' w' hp
                obtain ⟨ρ1, hle1, hex, hs1, hd1, hw1⟩ := hp
                have hdf : a'.defers = [] := hd1
                rcases hv ρ1 a' w' hs1 hw1 with ⟨k, hk⟩ | ⟨v2, v', hk, hv2, hrun2⟩
                · cases hk
                · cases hk
                  have fin : bodyPost P fn (fun e w' => ∃ ρ' v', e = .returned v' ∧ ρ.le ρ' ∧ VRel sy ρ' v v' ∧ WRel sy G B w0 ρ' ⟨h1, n1, d⟩ w') eb a' w' := by
                    rcases hor with h | h <;> subst h <;> exact ⟨hdf, v', hrun2, ρ1, v', rfl, hle1, hv2, hw1.dfs⟩
                  rw [he']; exact fin
            cases e with
            | normal => simp only [endF] at hr; exact ret .normal (.inl rfl) (fun e' a' w' ⟨_, _, hex, _⟩ => hex) hr
            | ret => simp only [endF] at hr; exact ret .ret (.inr rfl) (fun e' a' w' ⟨_, _, hex, _⟩ => hex) hr
            | exit id => simp only [endF] at hr; subst hr; exact trivial
            | panic v =>
              simp only [endF] at hr
              subst hr
              refine ⟨rfl, calls_of_wp hf hb (Code.wp_mono (fun e' a' w' hp => ?_) hwp)⟩
              obtain ⟨ρ1, hle1, ⟨v', rfl, hv⟩, hs1, hd1, hw1⟩ := hp
              exact ⟨hd1, ρ1, v', rfl, hle1, hv, hw1.dfs⟩

theorem run_ok (hdraw : DrawOk sy G B w0 P) (hint : Nat → List Nat) : ∀ n, CallerSound sy G B w0 P (run P G hint n)
  | 0 => fun f args st ρ w args' _ _ _ => trivial
  | n + 1 => fun_ok hdraw (run_ok hdraw hint n) hint
end
end Go.Proofs.YtonlahgagjejeaaGreatDoorX
