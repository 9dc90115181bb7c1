/- Operations: what the executor says of one, the model does (1: moves, memory). -/
import Derived.Test.YtbmbjaogcmokoaaGreatDoorXState
namespace Go.Proofs.YtbmbjaogcmokoaaGreatDoorX
open Go Go.RowKit
set_option linter.unusedVariables false

section
variable (sy : Sy) (G : Nat) (B : Kp) (w0 : World) (P : Program)

def DOne (ρ : Ren) (d : Dfr) (y : Deferred) : Prop :=
  (∃ b i, d.fn = .ptr b 0 ∧ ρ b = some i ∧ y = { target := .collected i.blk, args := #[] }) ∨ ∃ f fi ca fi' ca' as', d.fn = .func (.func f) fi ca ∧ VRels sy ρ fi fi' ∧ VRels sy ρ ca ca' ∧ VRels sy ρ d.args as' ∧
    y = { target := .fn (.func f) (List.toArray ca'), args := List.toArray fi' ++ List.toArray as' }
def DRel (ρ : Ren) : List Dfr → List Deferred → Prop
  | [], l => l = []
  | d :: r, l => ∃ y s, l = y :: s ∧ DOne sy ρ d y ∧ DRel ρ r s

structure SR (cx : Cx) (ρ : Ren) (env : List CV) (loc : Loc) (a : Act) : Prop where
  ng : cx.ng = G
  size : cx.nt ≤ a.tmps.size
  slot : ∀ t, VRel sy ρ (look cx env loc t) (a.tmps.getD t undef)

/-- what is owed for an operation's answer -/
def OpRes (ρ : Ren) (a : Act) (o : Oper) (w : World) : RV → Prop
  | .err _ => True
  | .ok v st' => ∀ next Q, (∀ ρ' v' w' ds', ρ.le ρ' → VRel sy ρ' v v' → WRel sy G B w0 ρ' st' w' → DRel sy ρ' st'.dfs ds' → next (({ a with defers := ds' } : Act).put o.dst v') w') → o.wp P a w next Q
  | .pan v st' => ∀ next Q, (∀ ρ' v' w', ρ.le ρ' → VRel sy ρ' v v' → WRel sy G B w0 ρ' st' w' → DRel sy ρ' st'.dfs a.defers → Q (.panic [⟨v', false, false⟩]) a w') → o.wp P a w next Q
end

section
variable {sy : Sy} {G : Nat} {B : Kp} {w0 : World} {P : Program} {ρ ρ' : Ren} {cx : Cx} {env : List CV} {loc : Loc} {a : Act} {st st' : St} {w w' : World} {o : Oper}

theorem DOne.mono (h : ρ.le ρ') {d : Dfr} {y : Deferred} (k : DOne sy ρ d y) : DOne sy ρ' d y := by
  rcases k with ⟨b, i, h1, h2, h3⟩ | ⟨f, fi, ca, fi', ca', as', h1, h2, h3, h4, h5⟩
  · exact .inl ⟨b, i, h1, h _ _ h2, h3⟩
  exact .inr ⟨f, fi, ca, fi', ca', as', h1, h2.mono sy h, h3.mono sy h, h4.mono sy h, h5⟩
theorem DRel.mono (h : ρ.le ρ') : ∀ {l : List Dfr} {s : List Deferred}, DRel sy ρ l s → DRel sy ρ' l s
  | [], _, k => k
  | _ :: _, _, ⟨y, s, e, h1, h2⟩ => ⟨y, s, e, h1.mono h, DRel.mono h h2⟩
theorem SR.mono (h : ρ.le ρ') (k : SR sy G cx ρ env loc a) : SR sy G cx ρ' env loc a := ⟨k.ng, k.size, fun t => (k.slot t).mono sy h⟩

theorem ok_val {v : CV} {v' : Value} (hr : (execOp a.eval o).run P w = .ok (.value v') w') (hρ : ρ.le ρ') (hv : VRel sy ρ' v v') (hw : WRel sy G B w0 ρ' st' w')
    (hd : DRel sy ρ st'.dfs a.defers) : OpRes sy G B w0 P ρ a o w (.ok v st') := by
  intro next Q h
  unfold Oper.wp
  rw [hr]
  exact h ρ' v' w' a.defers hρ hv hw (hd.mono hρ)
theorem ok_skip (hr : (execOp a.eval o).run P w = .ok .skip w') (hρ : ρ.le ρ') (hw : WRel sy G B w0 ρ' st' w')
    (hd : DRel sy ρ st'.dfs a.defers) : OpRes sy G B w0 P ρ a o w (.ok (.tup []) st') := by
  intro next Q h
  unfold Oper.wp
  rw [hr]
  exact h ρ' undef w' a.defers hρ (by simp only [VRel]; exact ⟨[], rfl, VRels.nil⟩) hw (hd.mono hρ)

/-! ## Operands -/
theorem evTmpAt_eq (t : Nat) : (evTmpAt t (pos cx.vars t)).f env loc = look cx env loc t := by
  unfold evTmpAt look
  cases pos cx.vars t <;> rfl
theorem evRel (hs : SR sy G cx ρ env loc a) (hw : WRel sy G B w0 ρ st w) (x : Operand) : VRel sy ρ ((ev cx x).f env loc) (a.eval x) := by
  cases x with
  | tmp t => show VRel sy ρ ((evTmpAt t (pos cx.vars t)).f env loc) _; rw [evTmpAt_eq]; exact hs.slot t
  | const v => exact ofValue_rel v
  | global g =>
    unfold ev
    simp only
    cases hb : Nat.blt g cx.ng with
    | false => simp [VRel]
    | true =>
      have hlt : g < cx.ng := by simpa [Nat.blt_eq] using hb
      obtain ⟨i, h1, h2, h3⟩ := hw.glob g (hs.ng ▸ hlt)
      simp only [VRel]
      exact ⟨i, h1, by simp [Act.eval, h2, h3]⟩
  | func f => simp only [ev, VRel]; exact ⟨[], [], by simp [Act.eval], VRels.nil, VRels.nil⟩
theorem evsRel (hs : SR sy G cx ρ env loc a) (hw : WRel sy G B w0 ρ st w) : ∀ (l : List Operand), VRels sy ρ ((evs cx l).f env loc) (l.map a.eval)
  | [] => VRels.nil
  | x :: r => VRels.cons (evRel hs hw x) (evsRel hs hw r)

/-! ## Types -/
theorem run_info {t : TypeId} {i : TypeInfo} (h : P.info? t = some i) (w : World) : (typeInfo t).run P w = .ok i w := by simp [typeInfo, h]
theorem run_under {t : TypeId} {d : TypeDesc} (h : P.underlying t = some d) (w : World) : (underlying t).run P w = .ok d w := by simp [underlying, h]
theorem run_size {t n : Nat} (h : szOf P t = some n) (w : World) : (sizeOf t).run P w = .ok n w := by
  unfold szOf at h
  cases hi : P.info? t with
  | none => rw [hi] at h; cases h
  | some i => rw [hi] at h; cases h; simp [sizeOf, run_info hi]
theorem run_agg {t : Nat} {g : Bool} (h : aggOf P t = some g) (w : World) : (isAgg t).run P w = .ok g w := by
  unfold aggOf at h
  cases hi : P.underlying t with
  | none => rw [hi] at h; cases h
  | some d =>
    rw [hi] at h
    cases h
    simp only [isAgg, Sem.run_bind, run_under hi, Result.andThen]
    cases d <;> rfl
theorem sound1_spec {x z : CV} (h : sound1 x = some z) : z = x ∧ z ≠ .unk ∧ ∀ l, z ≠ .tup l := by
  cases x <;> simp [sound1] at h <;> subst h <;> simp
theorem run_zero {t : Nat} {z : CV} (h : zeroOf P t = some z) (w : World) (ρ : Ren) : ∃ v, (zeroValue t).run P w = .ok v w ∧ VRel sy ρ z v ∧ z ≠ .unk ∧ (∀ l, z ≠ .tup l) := by
  unfold zeroOf at h
  cases hi : P.info? t with
  | none => rw [hi] at h; cases h
  | some i =>
    rw [hi] at h
    simp only at h
    cases hz : i.zero with
    | none => rw [hz] at h; cases h
    | some v =>
      rw [hz] at h
      obtain ⟨rfl, h2, h3⟩ := sound1_spec h
      exact ⟨v, by simp [zeroValue, run_info hi, hz], ofValue_rel v, h2, h3⟩

/-! ## Rows -/
theorem newRow_eq (cs : List CV) (es : Nat) (inf : Inf) (h : T Obj) (n : Nat) (d : List Dfr) (K : Nat → St → RV) :
    newRow cs es inf ⟨h, n, d⟩ K = K n ⟨T.set h (.row (rowOf cs 0 .nil) cs.length es 0 inf) n, n + 1, d⟩ := by
  simp [newRow, forceN_eq, len_eq]
theorem newObj_eq (o : Obj) (h : T Obj) (n : Nat) (d : List Dfr) (K : Nat → St → RV) : newObj o ⟨h, n, d⟩ K = K n ⟨T.set h o n, n + 1, d⟩ := by
  simp [newObj, forceN_eq]
theorem setObj_eq (o : Obj) (b : Nat) (h : T Obj) (n : Nat) (d : List Dfr) (K : St → RV) : setObj o b ⟨h, n, d⟩ K = K ⟨T.set h o b, n, d⟩ := rfl

theorem alloc_heap (w : World) (O : Go.Obj) : (w.alloc O).heap[w.heap.size]? = some O := by
  show (w.heap.push O)[w.heap.size]? = _
  simp
/-- a row that has just been made -/
theorem WRel.row {h : T Obj} {n : Nat} {d : List Dfr} {cs : List CV} {vs rest : List Value} {es ext : Nat} {arr : Array Value} {elem : TypeId} {inf : Inf} (hw : WRel sy G B w0 ρ ⟨h, n, d⟩ w)
    (hv : VRels sy ρ cs vs) (ha : arr.toList = vs ++ rest) (hr : ext * es ≤ rest.length) (hinf : (∀ t, inf.ty = some t → elem = t) ∧ (inf.wh = true → rest = [])) :
    WRel sy G B w0 (ρ.put n ⟨w.heap.size, 0, ext, es⟩) ⟨T.set h (.row (rowOf cs 0 .nil) cs.length es 0 inf) n, n + 1, d⟩ (w.alloc (.cells arr elem)) := by
  refine hw.new rfl ⟨_, arr, elem, (0, 0), Ren.put_same _ _ _, hw.over, ⟨rfl, hinf.1, fun _ => rfl, fun h => (by rw [← Array.length_toList, ha, hinf.2 h, List.append_nil, hv.length]), fun _ => .inl rfl⟩, alloc_heap _ _, ?_, fun j v hj => ?_, fun j _ _ => by simp⟩
  · have h1 : arr.size = vs.length + rest.length := by rw [← Array.length_toList, ha]; simp
    have h2 := hv.length
    simp only
    omega
  · rw [rowOf_get] at hj
    by_cases hlt : 0 ≤ j ∧ j < 0 + cs.length
    · rw [if_pos hlt] at hj
      obtain ⟨v', h1, h2⟩ := hv.get (j - 0) v hj
      have hlt' : j < cs.length := by omega
      refine ⟨hlt', v', ?_, h2.mono sy (Ren.le_put hw.fresh)⟩
      show arr[j + 0]? = _
      rw [Nat.add_zero, ← Array.getElem?_toList, ha, List.getElem?_append_left (by rw [hv.length]; exact hlt')]
      simpa using h1
    · rw [if_neg hlt, T.get_nil] at hj; cases hj

theorem cellsAt_rel (hw : WRel sy G B w0 ρ st w) {b : Nat} {cells : T CV} (h : cellsAt b st = some cells) : ∃ i c e fz, ρ b = some i ∧ w.heap[i.blk]? = some (.cells c e fz) ∧
    ∀ (j : Nat) (v : CV), cells.get j = some v → ∃ v', c[j + i.sh]? = some v' ∧ VRel sy ρ v v' := by
  unfold cellsAt at h
  cases ho : st.heap.get b with
  | none => rw [ho] at h; cases h
  | some x =>
    rw [ho] at h
    have hx := hw.obj b x ho
    cases x <;> simp at h
    · subst h
      obtain ⟨i, c, e, fz, h1, _, _, h4, _, h6, _⟩ := hx
      exact ⟨i, c, e, fz, h1, h4, fun j v hj => (h6 j v hj).2⟩
    · subst h
      obtain ⟨i, c, e, fz, h1, _, h4, h6⟩ := hx
      exact ⟨i, c, e, fz, h1, h4, h6⟩
/-- cells that are read in a row -/
theorem loadN_rel {i : BI} {c : Array Value} {cells : T CV} (hc : ∀ (j : Nat) (v : CV), cells.get j = some v → ∃ v', c[j + i.sh]? = some v' ∧ VRel sy ρ v v') {n ofs : Nat} {l : List CV}
    (hl : loadN cells n ofs = some l) : ∃ l' : List Value, l'.length = n ∧ VRels sy ρ l l' ∧ ∀ j, j < n → c[ofs + i.sh + j]? = l'[j]? := by
  obtain ⟨h1, h2⟩ := loadN_get _ _ _ _ hl
  have key : ∀ j, j < n → ∃ v', c[ofs + i.sh + j]? = some v' ∧ ∀ v, l[j]? = some v → VRel sy ρ v v' := fun j hj => by
    have e := h2 j hj
    have hlt : j < l.length := by omega
    rw [List.getElem?_eq_getElem hlt] at e
    obtain ⟨v', k1, k2⟩ := hc _ _ e
    exact ⟨v', by rw [← k1]; congr 1; omega, fun v hv => by rw [List.getElem?_eq_getElem hlt] at hv; cases hv; exact k2⟩
  refine ⟨(List.range n).map fun j => (c[ofs + i.sh + j]?).getD undef, by simp, VRels.of_get (by simp [h1]) fun j v v' hv hv' => ?_, fun j hj => ?_⟩
  · have hlt : j < n := by
      rcases Nat.lt_or_ge j n with h | h
      · exact h
      · rw [List.getElem?_eq_none (by omega)] at hv; cases hv
    obtain ⟨u, k1, k2⟩ := key j hlt
    simp only [List.getElem?_map, List.getElem?_range hlt, Option.map_some, Option.some.injEq] at hv'
    rw [k1] at hv'
    subst hv'
    exact k2 v hv
  · obtain ⟨u, k1, _⟩ := key j hj
    simp [hj, k1]

theorem run_loadVar {t n : Nat} {g : Bool} (hg : aggOf P t = some g) (hn : szOf P t = some n) (hw : WRel sy G B w0 ρ st w) {b ofs : Nat} {i : BI} (hi : ρ b = some i) {K : CV → RV} {r : RV}
    (hr : loadAt g n b ofs st K = r) : (∃ k, r = .err k) ∨ ∃ v v', K v = r ∧ VRel sy ρ v v' ∧ (loadVar t ⟨i.blk, ofs + i.sh, none⟩).run P w = .ok v' w := by
  unfold loadAt at hr
  cases hc : cellsAt b st with
  | none => rw [hc] at hr; exact .inl ⟨_, hr.symm⟩
  | some cells =>
    rw [hc] at hr
    obtain ⟨i', c, e, fz, h1, h2, h3⟩ := cellsAt_rel hw hc
    rw [hi] at h1; cases h1
    cases g with
    | true =>
      simp only at hr
      cases hl : loadN cells n ofs with
      | none => rw [hl] at hr; exact .inl ⟨_, hr.symm⟩
      | some l =>
        rw [hl] at hr
        obtain ⟨l', k1, k2, k3⟩ := loadN_rel h3 hl
        refine .inr ⟨_, .agg l'.toArray, hr, by simp only [VRel]; exact ⟨l', rfl, k2⟩, ?_⟩
        subst k1
        simp [loadVar, run_agg hg, run_size hn, run_loadCells h2 l' k3]
    | false =>
      simp only at hr
      cases hl : cells.get ofs with
      | none => rw [hl] at hr; exact .inl ⟨_, hr.symm⟩
      | some v =>
        rw [hl] at hr
        obtain ⟨v', k1, k2⟩ := h3 _ _ hl
        exact .inr ⟨v, v', hr, k2, by simp [loadVar, run_agg hg, cell_row h2, k1]⟩
end
end Go.Proofs.YtbmbjaogcmokoaaGreatDoorX
