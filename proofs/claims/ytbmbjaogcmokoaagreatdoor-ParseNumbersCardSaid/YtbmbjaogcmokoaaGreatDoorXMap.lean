/- Operations: maps. -/
import Derived.Test.YtbmbjaogcmokoaaGreatDoorXOps9
import Derived.Laws.StructEq
namespace Go.Proofs.YtbmbjaogcmokoaaGreatDoorX
open Go Go.RowKit
set_option linter.unusedVariables false

section
variable {sy : Sy} {G : Nat} {B : Kp} {w0 : World} {P : Program} {ρ ρ' : Ren} {cx : Cx} {env : List CV} {loc : Loc} {a : Act} {st st' : St} {w w' : World} {o : Oper} {call : Caller}

theorem mapOf_spec {t kd : Nat} {z : Option CV} (h : mapOf P t = some (kd, z)) : ∃ k e d, P.underlying t = some (.map k e) ∧ P.underlying k = some d ∧ z = zeroOf P e ∧ ((kd = 1 ∧ d = .string) ∨ (kd = 2 ∧ ∃ i, d = .int i)) := by
  unfold mapOf at h
  cases hu : P.underlying t with
  | none => rw [hu] at h; cases h
  | some d =>
    rw [hu] at h
    cases d <;> simp only at h <;> try (cases h; done)
    rename_i k e
    cases hk : P.underlying k with
    | none => rw [hk] at h; cases h
    | some kd' =>
      rw [hk] at h
      cases kd' <;> simp only at h <;> try (cases h; done)
      · cases h; exact ⟨k, e, _, rfl, hk, rfl, .inr ⟨rfl, _, rfl⟩⟩
      · cases h; exact ⟨k, e, _, rfl, hk, rfl, .inl ⟨rfl, rfl⟩⟩

/-- two keys -/
theorem keyEq_rel {x y : CV} {x' y' : Value} {K : Bool → RV} {r : RV} {d : TypeDesc} (hx : VRel sy ρ x x') (hy : VRel sy ρ y y') (hd : (∃ l n, x = .str l n ∧ d = .string) ∨ ∃ k a i, x = .int k a ∧ d = .int i) (hr : keyEq x y K = r) :
    (∃ k, r = .err k) ∨ ∃ b, K b = r ∧ Instr.sameNow d x' y' = some b := by
  rcases hd with ⟨l, n, rfl, rfl⟩ | ⟨k, z, i, rfl, rfl⟩
  · cases y <;> simp only [keyEq] at hr <;> try exact .inl ⟨_, hr.symm⟩
    simp only [VRel] at hx hy
    subst hx; subst hy
    rename_i m k
    refine .inr ⟨_, hr, ?_⟩
    simp only [Instr.sameNow]
    rw [eqStr_eq, beq_toListBytes]
  · cases y <;> simp only [keyEq] at hr <;> try exact .inl ⟨_, hr.symm⟩
    rename_i k' b
    cases hk : decide (k = k') with
    | false => rw [hk] at hr; exact .inl ⟨_, hr.symm⟩
    | true =>
      rw [hk] at hr
      have : k = k' := of_decide_eq_true hk
      subst this
      simp only [VRel] at hx hy
      subst hx; subst hy
      exact .inr ⟨_, hr, by simp [Instr.sameNow]⟩

theorem findE_rel {x : CV} {x' : Value} {d : TypeDesc} (hx : VRel sy ρ x x') (hd : (∃ l n, x = .str l n ∧ d = .string) ∨ ∃ k a i, x = .int k a ∧ d = .int i) {K : Option CV → RV} {r : RV} :
    ∀ (es : List Ent) (es' : List MapEntry) (i : Nat), EntRel sy ρ es es' → findE x K es = r → (∃ k, r = .err k) ∨ (K none = r ∧ Instr.findNow d x' es' i = some none) ∨ ∃ v v' j, K (some v) = r ∧ VRel sy ρ v v' ∧ Instr.findNow d x' es' i = some (some (j, v'))
  | [], es', i, h, hr => by
    simp only [EntRel] at h
    subst h
    exact .inr (.inl ⟨hr, rfl⟩)
  | e :: es, es', i, h, hr => by
    simp only [EntRel] at h
    obtain ⟨y, s, rfl, h1, h2, _, h4⟩ := h
    have hr' : keyEq x e.key (fun b => bif b then K (some e.val) else findE x K es) = r := hr
    rcases keyEq_rel hx h1 hd hr' with h | ⟨b, hb, hs⟩
    · exact .inl h
    · cases b with
      | true =>
        refine .inr (.inr ⟨e.val, y.val, i, hb, h2, ?_⟩)
        simp [Instr.findNow, hs]
      | false =>
        rcases findE_rel hx hd es s (i + 1) h4 hb with h | ⟨h, h'⟩ | ⟨v, v', j, p1, p2, p3⟩
        · exact .inl h
        · exact .inr (.inl ⟨h, by simp [Instr.findNow, hs, h']⟩)
        · exact .inr (.inr ⟨v, v', j, p1, p2, by simp [Instr.findNow, hs, p3]⟩)

theorem keyForce_rel {kd : Nat} {x : CV} {K : CV → RV} {r : RV} {d : TypeDesc} (hd : (kd = 1 ∧ d = .string) ∨ (kd = 2 ∧ ∃ i, d = .int i)) (hr : keyForce kd x K = r) :
    (∃ k, r = .err k) ∨ (K x = r ∧ ((∃ l n, x = .str l n ∧ d = .string) ∨ ∃ k a i, x = .int k a ∧ d = .int i)) := by
  unfold keyForce at hr
  cases x <;> simp only at hr <;> try exact .inl ⟨_, hr.symm⟩
  · rename_i k z
    rcases hd with ⟨rfl, rfl⟩ | ⟨rfl, i, rfl⟩
    · exact .inl ⟨_, hr.symm⟩
    · exact .inr ⟨hr, .inr ⟨_, _, _, rfl, rfl⟩⟩
  · rename_i l n
    rcases hd with ⟨rfl, rfl⟩ | ⟨rfl, i, rfl⟩
    · exact .inr ⟨hr, .inl ⟨_, _, rfl, rfl⟩⟩
    · exact .inl ⟨_, hr.symm⟩

theorem run_checkKey {k : TypeId} {d : TypeDesc} (hu : P.underlying k = some d) (hd : d = .string ∨ ∃ i, d = .int i) (e : Bool) (v : Value) (w : World) : (Instr.checkKey e 10000 k v).run P w = .ok () w := by
  unfold Instr.checkKey
  simp only [Sem.run_bind, run_under hu, Result.andThen]
  rcases hd with rfl | ⟨i, rfl⟩ <;> rfl

theorem lookup_ok {t : Nat} {m k : Operand} {ok : Bool} (ho : o.op = .lookup t m k ok) (hs : SR sy G cx ρ env loc a) (hd : DRel sy ρ st.dfs a.defers) (hw : WRel sy G B w0 ρ st w) :
    OpRes sy G B w0 P ρ a o w ((oLookup (mapOf P t) ok (ev cx m) (ev cx k)).f call env loc st) := by
  have hm := evRel hs hw m
  have hk := evRel hs hw k
  unfold oLookup
  cases hmo : mapOf P t with
  | none => exact trivial
  | some q =>
    obtain ⟨kd, z⟩ := q
    obtain ⟨kt, et, d, h1, h2, rfl, h3⟩ := mapOf_spec hmo
    simp only
    cases hz : zeroOf P et with
    | none => exact trivial
    | some z =>
      obtain ⟨z', hz1, hz2, _⟩ := run_zero (sy := sy) hz w ρ
      have hkd : d = .string ∨ ∃ i, d = .int i := by
        rcases h3 with ⟨_, h⟩ | ⟨_, h⟩
        · exact .inl h
        · exact .inr h
      simp only
      have fin : ∀ {v : CV} {v' : Value} {b : Bool}, VRel sy ρ v v' → (Instr.lookup t (a.eval m) (a.eval k) ok).run P w = .ok (if ok then .tuple #[v', .bool b] else v') w → OpRes sy G B w0 P ρ a o w (lookAns ok v b st) := fun {v v' b} hv hrun => by
        cases ok with
        | true => exact pure_val (v' := .tuple [v', .bool b].toArray) (by simp [execOp, ho, hrun]) hw hd (by simp only [VRel]; exact ⟨_, rfl, VRels.cons hv (VRels.cons (by simp [VRel]) VRels.nil)⟩)
        | false => exact pure_val (v' := v') (by simp [execOp, ho, hrun]) hw hd hv
      generalize (ev cx m).f env loc = u at *
      cases u <;> try exact trivial
      · rename_i b
        simp only
        cases hg : st.heap.get b with
        | none => exact trivial
        | some ob =>
          simp only
          cases ob <;> try exact trivial
          rename_i es clock
          obtain ⟨i, es', p1, p2, p3, p4⟩ := hw.obj b _ hg
          simp only [VRel] at hm
          obtain ⟨i', q1, q2⟩ := hm
          rw [p1] at q1; cases q1
          simp only
          generalize hr : keyForce kd ((ev cx k).f env loc) _ = r
          rcases keyForce_rel h3 hr with ⟨n, rfl⟩ | ⟨hr2, hfit⟩
          · exact trivial
          · rcases findE_rel hk hfit es _ 0 p4 hr2 with ⟨n, rfl⟩ | ⟨hr3, hf⟩ | ⟨v, v', j, hr3, hv, hf⟩
            · exact trivial
            · rw [← hr3]
              refine fin hz2 ?_
              simp only [Instr.lookup, Sem.run_bind, run_under h1, q2, run_getObj p3 (by simp), Result.andThen, Sem.run_pure, run_checkKey h2 hkd, Instr.findKey, run_under h2, hf, hz1]
            · rw [← hr3]
              refine fin hv ?_
              simp only [Instr.lookup, Sem.run_bind, run_under h1, q2, run_getObj p3 (by simp), Result.andThen, Sem.run_pure, run_checkKey h2 hkd, Instr.findKey, run_under h2, hf]
      · simp only [VRel] at hm
        refine fin hz2 ?_
        have hf : Instr.findNow d (a.eval k) [] 0 = some none := rfl
        simp only [Instr.lookup, Sem.run_bind, run_under h1, hm, Result.andThen, Sem.run_pure, run_checkKey h2 hkd, Instr.findKey, run_under h2, hf, hz1]

theorem EntRel.push {e : Ent} {e' : MapEntry} (h1 : VRel sy ρ e.key e'.key) (h2 : VRel sy ρ e.val e'.val) (h3 : e'.born = e.born) : ∀ {l : List Ent} {l' : List MapEntry}, EntRel sy ρ l l' → EntRel sy ρ (l ++ [e]) (l' ++ [e'])
  | [], _, h => by
    simp only [EntRel] at h
    subst h
    simp only [List.nil_append, EntRel]
    exact ⟨e', [], rfl, h1, h2, h3, rfl⟩
  | x :: r, _, h => by
    simp only [EntRel] at h
    obtain ⟨y, s, rfl, k1, k2, k3, k4⟩ := h
    simp only [List.cons_append, EntRel]
    exact ⟨y, s ++ [e'], rfl, k1, k2, k3, EntRel.push h1 h2 h3 k4⟩
theorem pushE_eq (e : Ent) : ∀ (es : List Ent) (K : List Ent → RV), pushE e es K = K (es ++ [e])
  | [], K => rfl
  | x :: r, K => by
    show pushE e r (fun l => K (x :: l)) = _
    rw [pushE_eq e r]
    rfl

/-- an entry's value is turned -/
theorem setE_rel {x v : CV} {x' v' : Value} {d : TypeDesc} (hx : VRel sy ρ x x') (hv : VRel sy ρ v v') (hd : (∃ l n, x = .str l n ∧ d = .string) ∨ ∃ k a i, x = .int k a ∧ d = .int i) :
    ∀ (es : List Ent) (es' : List MapEntry) (i j : Nat) (u : Value) (K : List Ent → RV) (r : RV), EntRel sy ρ es es' → setE x v es K = r → Instr.findNow d x' es' i = some (some (j, u)) →
      (∃ k, r = .err k) ∨ ∃ l', K l' = r ∧ i ≤ j ∧ (∃ e, es'[j - i]? = some e ∧ Instr.sameNow d x' e.key = some true) ∧ EntRel sy ρ l' (es'.modify (j - i) fun e => { e with key := x', val := v' })
  | [], es', i, j, u, K, r, h, hr, hf => by
    simp only [EntRel] at h
    subst h
    simp [Instr.findNow] at hf
  | e :: es, es', i, j, u, K, r, h, hr, hf => by
    simp only [EntRel] at h
    obtain ⟨y, s, rfl, h1, h2, h3, h4⟩ := h
    have hr' : keyEq x e.key (fun b => bif b then K (⟨x, v, e.born⟩ :: es) else setE x v es fun l => K (e :: l)) = r := hr
    rcases keyEq_rel hx h1 hd hr' with h | ⟨b, hb, hs⟩
    · exact .inl h
    · cases b with
      | true =>
        simp only [Instr.findNow, hs, Option.some.injEq, Prod.mk.injEq] at hf
        obtain ⟨rfl, _⟩ := hf
        refine .inr ⟨_, hb, Nat.le_refl _, ⟨y, by simp, hs⟩, ?_⟩
        simp only [Nat.sub_self, List.modify_zero_cons, EntRel]
        exact ⟨_, s, rfl, hx, hv, h3, h4⟩
      | false =>
        simp only [Instr.findNow, hs] at hf
        rcases setE_rel hx hv hd es s (i + 1) j u _ r h4 hb hf with h | ⟨l', k1, k2, ⟨e2, k3, k4⟩, k5⟩
        · exact .inl h
        · have e1 : j - i = (j - (i + 1)) + 1 := by omega
          refine .inr ⟨_, k1, by omega, ⟨e2, by rw [e1]; simpa using k3, k4⟩, ?_⟩
          rw [e1, List.modify_succ_cons]
          simp only [EntRel]
          exact ⟨y, _, rfl, h1, h2, h3, k5⟩
/-- an entry goes -/
theorem dropE_rel {x : CV} {x' : Value} {d : TypeDesc} (hx : VRel sy ρ x x') (hd : (∃ l n, x = .str l n ∧ d = .string) ∨ ∃ k a i, x = .int k a ∧ d = .int i) :
    ∀ (es : List Ent) (es' : List MapEntry) (i : Nat) (K : List Ent → RV) (r : RV), EntRel sy ρ es es' → dropE x es K = r →
      (∃ k, r = .err k) ∨ ∃ l', K l' = r ∧ ((Instr.findNow d x' es' i = some none ∧ EntRel sy ρ l' es') ∨ ∃ j u, Instr.findNow d x' es' i = some (some (j, u)) ∧ i ≤ j ∧ j - i < es'.length ∧ EntRel sy ρ l' (es'.eraseIdx (j - i)))
  | [], es', i, K, r, h, hr => by
    simp only [EntRel] at h
    subst h
    exact .inr ⟨[], hr, .inl ⟨rfl, by simp [EntRel]⟩⟩
  | e :: es, es', i, K, r, h, hr => by
    simp only [EntRel] at h
    obtain ⟨y, s, rfl, h1, h2, h3, h4⟩ := h
    have hr' : keyEq x e.key (fun b => bif b then K es else dropE x es fun l => K (e :: l)) = r := hr
    rcases keyEq_rel hx h1 hd hr' with h | ⟨b, hb, hs⟩
    · exact .inl h
    · cases b with
      | true => exact .inr ⟨_, hb, .inr ⟨i, y.val, by simp [Instr.findNow, hs], Nat.le_refl _, by simp, by simpa using h4⟩⟩
      | false =>
        rcases dropE_rel hx hd es s (i + 1) _ r h4 hb with h | ⟨l', k1, ⟨k2, k3⟩ | ⟨j, u, k2, k3, k4, k5⟩⟩
        · exact .inl h
        · exact .inr ⟨_, k1, .inl ⟨by simp [Instr.findNow, hs, k2], by simp only [EntRel]; exact ⟨y, s, rfl, h1, h2, h3, k3⟩⟩⟩
        · have e1 : j - i = (j - (i + 1)) + 1 := by omega
          refine .inr ⟨_, k1, .inr ⟨j, u, by simp [Instr.findNow, hs, k2], by omega, by rw [e1]; simpa using k4, ?_⟩⟩
          rw [e1, List.eraseIdx_cons_succ]
          simp only [EntRel]
          exact ⟨y, _, rfl, h1, h2, h3, k5⟩
theorem sameBits_of_now {d : TypeDesc} {x y : Value} (h : Instr.sameNow d x y = some true) (hd : d = .string ∨ ∃ i, d = .int i) : Instr.sameBits 10000 y x = true := by
  rcases hd with rfl | ⟨i, rfl⟩
  · cases x <;> cases y <;> simp [Instr.sameNow] at h
    rename_i a b
    rw [beq_toListBytes] at h
    have h' := eq_of_beq h
    simp [Instr.sameBits, beq_toListBytes, h']
  · cases x <;> cases y <;> simp [Instr.sameNow] at h
    obtain ⟨rfl, rfl⟩ := h
    simp [Instr.sameBits]

theorem update_ok {t : Nat} {m k x : Operand} (ho : o.op = .mapUpdate t m k x ∨ o.op = .insert t m k x) (hs : SR sy G cx ρ env loc a) (hd : DRel sy ρ st.dfs a.defers) (hw : WRel sy G B w0 ρ st w) :
    OpRes sy G B w0 P ρ a o w ((oUpdate (mapOf P t) (ev cx m) (ev cx k) (ev cx x)).f call env loc st) := by
  have hm := evRel hs hw m
  have hk := evRel hs hw k
  have hx := evRel hs hw x
  unfold oUpdate
  cases hmo : mapOf P t with
  | none => exact trivial
  | some q =>
    obtain ⟨kd, z⟩ := q
    obtain ⟨kt, et, d, h1, h2, _, h3⟩ := mapOf_spec hmo
    have hkd : d = .string ∨ ∃ i, d = .int i := by
      rcases h3 with ⟨_, h⟩ | ⟨_, h⟩
      · exact .inl h
      · exact .inr h
    simp only
    generalize (ev cx m).f env loc = u at *
    cases u <;> try exact trivial
    rename_i b
    simp only
    cases hg : st.heap.get b with
    | none => exact trivial
    | some ob =>
      simp only
      cases ob <;> try exact trivial
      rename_i es clock
      obtain ⟨i, es', p1, p2, p3, p4⟩ := hw.obj b _ hg
      simp only [VRel] at hm
      obtain ⟨i', q1, q2⟩ := hm
      rw [p1] at q1; cases q1
      simp only
      generalize hr : keyForce kd ((ev cx k).f env loc) _ = r
      rcases keyForce_rel h3 hr with ⟨n, rfl⟩ | ⟨hr2, hfit⟩
      · exact trivial
      · rcases findE_rel hk hfit es _ 0 p4 hr2 with ⟨n, rfl⟩ | ⟨hr3, hf⟩ | ⟨v, v', j, hr3, hv, hf⟩
        · exact trivial
        · rw [← hr3, pushE_eq, forceN_eq]
          obtain ⟨hp0, nx, d0⟩ := st
          rw [setObj_eq]
          have hblk : i.blk < w.heap.size := (Array.getElem?_eq_some_iff.1 p3).1
          have hw1 : WRel sy G B w0 ρ ⟨T.set hp0 (.map (es ++ [⟨(ev cx k).f env loc, (ev cx x).f env loc, clock⟩]) (Nat.succ clock)) b, nx, d0⟩ { w with heap := w.heap.setIfInBounds i.blk (.map (es'.push ⟨a.eval k, a.eval x, clock⟩) (clock + 1)) } :=
            hw.update hg rfl p1 p2 (setObj_below p2) (fun k hk => setObj_ne hk) ⟨i, _, p1, p2, setObj_same hblk, by
              rw [Array.toList_push]
              exact EntRel.push hk hx rfl p4⟩
          refine ok_skip ?_ (Ren.le_refl _) hw1 hd
          have : (Instr.mapUpdate t (a.eval m) (a.eval k) (a.eval x)).run P w = .ok () { w with heap := w.heap.setIfInBounds i.blk (.map (es'.push ⟨a.eval k, a.eval x, clock⟩) (clock + 1)) } := by
            simp only [Instr.mapUpdate, Sem.run_bind, run_under h1, q2, run_getObj p3 (by simp), Result.andThen, Sem.run_pure, run_checkKey h2 hkd, Instr.findKey, run_under h2, hf, run_setObj p3 (by simp)]
          rcases ho with ho | ho <;> simp [execOp, ho, this]
        · have hr4 : setE ((ev cx k).f env loc) ((ev cx x).f env loc) es (fun es => setObj (.map es clock) b st fun st => RV.ok (.tup []) st) = r := hr3
          rcases setE_rel hk hx hfit es _ 0 j v' _ r p4 hr4 hf with ⟨n, rfl⟩ | ⟨l', hr5, _, ⟨e2, g1, g2⟩, g3⟩
          · exact trivial
          · rw [← hr5]
            obtain ⟨hp0, nx, d0⟩ := st
            rw [setObj_eq]
            rw [Nat.sub_zero] at g1 g3
            have hblk : i.blk < w.heap.size := (Array.getElem?_eq_some_iff.1 p3).1
            have hw1 : WRel sy G B w0 ρ ⟨T.set hp0 (.map l' clock) b, nx, d0⟩ { w with heap := w.heap.setIfInBounds i.blk (.map (es'.modify j fun e => { e with key := a.eval k, val := a.eval x }) clock) } :=
              hw.update hg rfl p1 p2 (setObj_below p2) (fun k hk => setObj_ne hk) ⟨i, _, p1, p2, setObj_same hblk, by
                rw [Array.toList_modify]
                exact g3⟩
            refine ok_skip ?_ (Ren.le_refl _) hw1 hd
            have g1' : es'[j]? = some e2 := by simpa using g1
            have : (Instr.mapUpdate t (a.eval m) (a.eval k) (a.eval x)).run P w = .ok () { w with heap := w.heap.setIfInBounds i.blk (.map (es'.modify j fun e => { e with key := a.eval k, val := a.eval x }) clock) } := by
              simp only [Instr.mapUpdate, Sem.run_bind, run_under h1, q2, run_getObj p3 (by simp), Result.andThen, Sem.run_pure, run_checkKey h2 hkd, Instr.findKey, run_under h2, hf, g1', Option.map_some, Option.getD_some, Instr.keyThatStays, sameBits_of_now g2 hkd, if_true, run_setObj p3 (by simp)]
            rcases ho with ho | ho <;> simp [execOp, ho, this]

theorem delete_ok {c : Call} {m k : Operand} {t t2 : TypeId} (ho : o.op = .call c) (hc : c.callee = .builtin .delete) (ha : c.args.toList = [m, k]) (ht : c.argTypes.toList = [t, t2])
    (hs : SR sy G cx ρ env loc a) (hd : DRel sy ρ st.dfs a.defers) (hw : WRel sy G B w0 ρ st w) :
    OpRes sy G B w0 P ρ a o w ((oDelete (mapOf P t) (ev cx m) (ev cx k)).f call env loc st) := by
  have hm := evRel hs hw m
  have hk := evRel hs hw k
  have ha' : c.args = #[m, k] := Array.toList_inj.1 (by simpa using ha)
  have ht' : c.argTypes = #[t, t2] := Array.toList_inj.1 (by simpa using ht)
  have hrun : ∀ s : Sem Value, Builtin.delete_ #[t, t2] o.type #[a.eval m, a.eval k] = s → (execOp a.eval o).run P w = (s.run P w).andThen fun v w => .ok (.value v) w := fun s h => by
    rw [builtin_call (s := do pure (.value (← s))) ho hc (fun _ => by rw [ha', ht']; simp only [builtin]; rw [← h]; simp)]
    simp
  unfold oDelete
  cases hmo : mapOf P t with
  | none => exact trivial
  | some q =>
    obtain ⟨kd, z⟩ := q
    obtain ⟨kt, et, d, h1, h2, _, h3⟩ := mapOf_spec hmo
    have hkd : d = .string ∨ ∃ i, d = .int i := by
      rcases h3 with ⟨_, h⟩ | ⟨_, h⟩
      · exact .inl h
      · exact .inr h
    simp only
    generalize (ev cx m).f env loc = u at *
    cases u <;> try exact trivial
    · rename_i b
      simp only
      cases hg : st.heap.get b with
      | none => exact trivial
      | some ob =>
        simp only
        cases ob <;> try exact trivial
        rename_i es clock
        obtain ⟨i, es', p1, p2, p3, p4⟩ := hw.obj b _ hg
        simp only [VRel] at hm
        obtain ⟨i', q1, q2⟩ := hm
        rw [p1] at q1; cases q1
        simp only
        generalize hr : keyForce kd ((ev cx k).f env loc) _ = r
        rcases keyForce_rel h3 hr with ⟨n, rfl⟩ | ⟨hr2, hfit⟩
        · exact trivial
        · have hblk : i.blk < w.heap.size := (Array.getElem?_eq_some_iff.1 p3).1
          obtain ⟨hp0, nx, d0⟩ := st
          rcases dropE_rel hk hfit es _ 0 _ r p4 hr2 with ⟨n, rfl⟩ | ⟨l', hr3, ⟨hf, hl⟩ | ⟨j, u, hf, _, hlt, hl⟩⟩
          · exact trivial
          · rw [← hr3, setObj_eq]
            have hw1 : WRel sy G B w0 ρ ⟨T.set hp0 (.map l' clock) b, nx, d0⟩ { w with heap := w.heap.setIfInBounds i.blk (.map es' clock) } :=
              hw.update hg rfl p1 p2 (setObj_below p2) (fun k hk => setObj_ne hk) ⟨i, _, p1, p2, setObj_same hblk, hl⟩
            refine ok_val (v' := undef) ?_ (Ren.le_refl _) (by simp only [VRel]; exact ⟨[], rfl, VRels.nil⟩) hw1 hd
            rw [hrun _ rfl]
            simp only [Builtin.delete_, List.getElem?_toArray, List.getElem?_cons_zero, List.getElem?_cons_succ, Sem.run_bind, run_under h1, q2, run_getObj p3 (by simp), Result.andThen, Sem.run_pure, run_checkKey h2 hkd, Instr.findKey, run_under h2, hf, run_setObj p3 (by simp)]
            rfl
          · rw [← hr3, setObj_eq]
            rw [Nat.sub_zero] at hl hlt
            have hw1 : WRel sy G B w0 ρ ⟨T.set hp0 (.map l' clock) b, nx, d0⟩ { w with heap := w.heap.setIfInBounds i.blk (.map (es'.eraseIdxIfInBounds j) clock) } :=
              hw.update hg rfl p1 p2 (setObj_below p2) (fun k hk => setObj_ne hk) ⟨i, _, p1, p2, setObj_same hblk, by
                rw [Array.eraseIdxIfInBounds, dif_pos (by simpa using hlt), Array.toList_eraseIdx]
                exact hl⟩
            refine ok_val (v' := undef) ?_ (Ren.le_refl _) (by simp only [VRel]; exact ⟨[], rfl, VRels.nil⟩) hw1 hd
            rw [hrun _ rfl]
            simp only [Builtin.delete_, List.getElem?_toArray, List.getElem?_cons_zero, List.getElem?_cons_succ, Sem.run_bind, run_under h1, q2, run_getObj p3 (by simp), Result.andThen, Sem.run_pure, run_checkKey h2 hkd, Instr.findKey, run_under h2, hf, run_setObj p3 (by simp)]
            rfl
    · simp only [VRel] at hm
      refine ok_val (v' := undef) (w' := w) ?_ (Ren.le_refl _) (by simp only [VRel]; exact ⟨[], rfl, VRels.nil⟩) hw hd
      rw [hrun _ rfl]
      simp only [Builtin.delete_, List.getElem?_toArray, List.getElem?_cons_zero, List.getElem?_cons_succ, Sem.run_bind, run_under h1, hm, Result.andThen, Sem.run_pure, run_checkKey h2 hkd]
      rfl

theorem makeMap_ok {t : Nat} {r : Option Operand} (ho : o.op = .makeMap t r) (hs : SR sy G cx ρ env loc a) (hd : DRel sy ρ st.dfs a.defers) (hw : WRel sy G B w0 ρ st w) :
    OpRes sy G B w0 P ρ a o w ((oMakeMap r).f call env loc st) := by
  unfold oMakeMap
  cases r with
  | some x => exact trivial
  | none =>
    obtain ⟨h, n, d⟩ := st
    simp only
    rw [newObj_eq]
    have hw1 : WRel sy G B w0 (ρ.put n ⟨w.heap.size, 0, 0, 0⟩) ⟨T.set h (.map [] 0) n, n + 1, d⟩ (w.alloc (.map #[] 0)) :=
      hw.new rfl ⟨_, #[], Ren.put_same _ _ _, hw.over, alloc_heap _ _, by simp [EntRel]⟩
    refine ok_val (v' := .map (some w.heap.size)) ?_ (Ren.le_put hw.fresh) ?_ hw1 hd
    · simp [execOp, ho, Instr.makeMap]
    · simp only [VRel]
      exact ⟨_, Ren.put_same _ _ _, rfl⟩

theorem wrap_small {n : Nat} (h : n ≤ 9223372036854775807) : IntKind.i64.wrap (Int.ofNat n) = Int.ofNat n := by
  have e : (2 ^ IntKind.i64.bits : Int) = 18446744073709551616 := rfl
  have e2 : (2 ^ (IntKind.i64.bits - 1) : Int) = 9223372036854775808 := rfl
  have h1 : Int.ofNat n % 18446744073709551616 = Int.ofNat n := Int.emod_eq_of_lt (by simp) (by simp only [Int.ofNat_eq_natCast]; omega)
  unfold IntKind.wrap
  simp only [e, e2, h1]
  rw [if_neg]
  simp only [Bool.and_eq_true, decide_eq_true_eq, not_and, Int.ofNat_eq_natCast]
  intro _
  omega
theorem makeSlice_ok {t : Nat} {x y : Operand} (ho : o.op = .makeSlice t x y) (hs : SR sy G cx ρ env loc a) (hd : DRel sy ρ st.dfs a.defers) (hw : WRel sy G B w0 ρ st w) :
    OpRes sy G B w0 P ρ a o w ((oMakeSlice P t (ev cx x) (ev cx y)).f call env loc st) := by
  have hx := evRel hs hw x
  have hy := evRel hs hw y
  unfold oMakeSlice
  cases he : elemOfSlice P t with
  | none => exact trivial
  | some e =>
    have hu := elemOfSlice_spec he
    cases hes : szOf P e with
    | none => simp only [hes]; exact trivial
    | some es =>
      cases hby : byOf P e with
      | none => simp only [hes, hby]; exact trivial
      | some by_ =>
        cases hz : zeroOf P e with
        | none => simp only [hes, hby, hz]; exact trivial
        | some z =>
          simp only [hes, hby, hz]
          cases hc : Nat.beq (len (cellsOf z)) es with
          | false => exact trivial
          | true =>
            have hlen : (cellsOf z).length = es := by rw [← len_eq]; exact Nat.eq_of_beq_eq_true hc
            obtain ⟨zv, z1, z2, z3, _⟩ := run_zero (sy := sy) hz w ρ
            simp only [cond_true]
            unfold makeRow
            generalize (ev cx x).f env loc = u at *
            generalize (ev cx y).f env loc = v at *
            cases u <;> try exact trivial
            rename_i k l
            simp only
            cases l <;> try exact trivial
            rename_i l
            simp only
            cases v <;> try exact trivial
            rename_i k' c
            simp only
            cases c <;> try exact trivial
            rename_i c
            simp only
            cases hk : (decide (k = .i64) && (decide (k' = .i64) && (Nat.ble l c && (Nat.ble (Nat.mul c by_) 281474976710656 && Nat.ble c 9223372036854775807)))) with
            | false => exact trivial
            | true =>
              simp only [Bool.and_eq_true, Nat.ble_eq, decide_eq_true_eq] at hk
              obtain ⟨rfl, rfl, k1, k2, k3⟩ := hk
              have k2' : c * by_ ≤ 281474976710656 := k2
              simp only [cond_true]
              simp only [VRel] at hx hy
              have hcs := cellsOf_rel z3 z2
              have hrep := repL_rel hcs c
              refine newRow_ok hrep hw (arr := (Array.range (c * (cellsOf z).length)).map (fun j => zv.cells[j % zv.cells.size]!)) (elem := e) rfl (fun _ h => by cases h) fun st1 hd1 hle hsame hw1 => ?_
              refine ok_val (v' := .slice (some ⟨w.heap.size, 0, none⟩) l c) (w' := w.alloc (.cells ((Array.range (c * (cellsOf z).length)).map (fun j => zv.cells[j % zv.cells.size]!)) e)) ?_ hle (by simp only [VRel]; exact ⟨_, hsame, by simp⟩) hw1 (by rw [hd1]; exact hd)
              obtain ⟨inf, hinf, hbytes⟩ : ∃ i, P.info? e = some i ∧ i.bytes = by_ := by
                unfold byOf at hby
                cases hi : P.info? e with
                | none => rw [hi] at hby; cases hby
                | some i => rw [hi] at hby; exact ⟨i, rfl, by simpa using hby⟩
              have w1 : IntKind.i64.wrap (Int.ofNat l) = Int.ofNat l := wrap_small (by omega)
              have w2 : IntKind.i64.wrap (Int.ofNat c) = Int.ofNat c := wrap_small (by omega)
              have e1 : ((by_ : Nat) : Int) * Int.ofNat c = ((c * by_ : Nat) : Int) := by rw [Nat.mul_comm]; simp
              have t1 : ¬ ((by_ : Int) * Int.ofNat c > 2 ^ 48) := by rw [e1]; omega
              have t2 : ¬ (Int.ofNat c < 0) := by simp
              have t3 : ¬ (Int.ofNat l < 0) := by simp
              have t4 : ¬ (Int.ofNat l > Int.ofNat c) := by simp only [Int.ofNat_eq_natCast]; omega
              have hrun : (Instr.makeSlice t (.int .i64 (Int.ofNat l)) (.int .i64 (Int.ofNat c))).run P w = .ok (.slice (some ⟨w.heap.size, 0, none⟩) l c) (w.alloc (.cells ((Array.range (c * (cellsOf z).length)).map (fun j => zv.cells[j % zv.cells.size]!)) e)) := by
                unfold Instr.makeSlice
                simp only [Sem.run_bind, run_under hu, Result.andThen, asInt, asIntOf, Sem.run_pure, run_info hinf, hbytes, w1, w2, decide_eq_false t1, decide_eq_false t2, decide_eq_false t3, decide_eq_false t4, Bool.or_self, Bool.or_false, Bool.false_eq_true, if_false, run_askRoom, run_size hes]
                rw [hlen]
                by_cases h0 : c * es = 0
                · have h0' : (Int.ofNat c).toNat * es = 0 := by simpa using h0
                  rw [if_pos h0', h0]
                  have em : ∀ f : Nat → Value, (Array.range 0).map f = #[] := fun f => Array.eq_empty_of_size_eq_zero (by simp)
                  simp [run_newRow, h0, em]
                · have h0' : ¬ (Int.ofNat c).toNat * es = 0 := by simpa using h0
                  rw [if_neg h0']
                  simp [z1, run_newRow]
              simp only [execOp, ho, Sem.run_bind, hx, hy, hrun, Result.andThen, Sem.run_pure]
end
end Go.Proofs.YtbmbjaogcmokoaaGreatDoorX
