/- Blocks that are made ahead; stores without an order. -/
import Derived.Test.YtbmbjaogcmokoaaGreatDoorXDraw3
namespace Go.Proofs.YtbmbjaogcmokoaaGreatDoorX
open Go Go.RowKit
set_option linter.unusedVariables false

section
variable {sy : Sy} {G : Nat} {B B' : Kp} {w0 : World} {P : Program} {ρ ρ' : Ren} {cx : Cx} {env : List CV} {loc : Loc} {a : Act} {st st' : St} {w w' : World} {o : Oper} {call : Caller}

/-- the model makes a block; the executor has not yet -/
theorem WRel.hold {n : Nat} {O : Go.Obj} {bi : BI} (h : WRel sy G B w ρ st w) (hn : B.no n) (hbi : bi.blk = w.heap.size) :
    WRel sy G ⟨fun k => B.blk k ∨ k = w.heap.size, fun b => B.no b ∧ b ≠ n⟩ (w.alloc O) (ρ.put n bi) st (w.alloc O) where
  below := Kept.refl _ _
  base := fun k hk => by
    rcases hk with hk | rfl
    · have := h.base k hk; simp; omega
    · simp
  ro := fun k hk => .inl (h.ro k hk)
  gone := fun b hb => by
    obtain ⟨h1, h2⟩ := h.gone b hb.1
    refine ⟨h1, ?_⟩
    unfold Ren.put
    rw [if_neg hb.2]; exact h2
  glob := fun g hg => by
    obtain ⟨i, h1, h2⟩ := h.glob g hg
    exact ⟨i, Ren.le_put (h.gone n hn).2 _ _ h1, h2⟩
  dom := fun b i hb => by
    unfold Ren.put at hb
    by_cases e : b = n
    · subst e; exact (h.gone _ hn).1
    · rw [if_neg e] at hb; exact h.dom _ _ hb
  obj := fun b o hb => by
    have hx := h.obj b o hb
    have hle := Ren.le_put (i := bi) (h.gone n hn).2
    have same : ∀ k, k < w.heap.size → (w.alloc O).heap[k]? = w.heap[k]? := fun k hk => Below.heap_alloc w O k hk
    have lt : ∀ {k : Nat} {x : Go.Obj}, w.heap[k]? = some x → k < w.heap.size := fun hk => (Array.getElem?_eq_some_iff.1 hk).1
    have ne : ∀ {k : Nat}, ¬ B.blk k → k < w.heap.size → ¬ (B.blk k ∨ k = w.heap.size) := fun h1 h2 h3 => h3.elim h1 (by omega)
    have hx2 : ORel sy ⟨fun k => B.blk k ∨ k = w.heap.size, fun b => B.no b ∧ b ≠ n⟩ ρ (w.alloc O) b o := by
      cases o with
      | row cells n es fr inf =>
        obtain ⟨i, c, e, fz, k1, k2, k3, k4, k5⟩ := hx
        exact ⟨i, c, e, fz, k1, ne k2 (lt k4), k3, by rw [same _ (lt k4)]; exact k4, k5⟩
      | ro cells n =>
        obtain ⟨i, c, e, fz, k1, k2, k4, k5⟩ := hx
        exact ⟨i, c, e, fz, k1, k2, by rw [same _ (lt k4)]; exact k4, k5⟩
      | map es clock =>
        obtain ⟨i, es', k1, k2, k4, k5⟩ := hx
        exact ⟨i, es', k1, ne k2 (lt k4), by rw [same _ (lt k4)]; exact k4, k5⟩
      | siter l n p =>
        obtain ⟨i, k1, k2, k3, k4⟩ := hx
        exact ⟨i, k1, ne k2 (lt k4), k3, by rw [same _ (lt k4)]; exact k4⟩
      | miter m since seen stepped =>
        obtain ⟨i, m', k1, k2, k3, k4, k5⟩ := hx
        exact ⟨i, m', k1, ne k2 (lt k4), k3, by rw [same _ (lt k4)]; exact k4, k5⟩
      | coll =>
        obtain ⟨i, k1, k2, k3, k4⟩ := hx
        exact ⟨i, k1, ne k2 (lt k4), k3, by rw [same _ (lt k4)]; exact k4⟩
      | dead => trivial
    exact hx2.mono hle
  inj := fun b1 b2 o1 o2 i1 i2 h1 k1 h2 k2 r1 r2 e => by
    have key : ∀ {b : Nat} {o : Obj} {i : BI}, st.heap.get b = some o → owned o = true → (ρ.put n bi) b = some i → ρ b = some i := fun {b o i} hb ho hi => by
      obtain ⟨j, q1, _⟩ := (h.obj b o hb).own ho
      have := Ren.le_put (i := bi) (h.gone n hn).2 _ _ q1
      rw [hi] at this; cases this
      exact q1
    exact h.inj b1 b2 o1 o2 i1 i2 h1 k1 h2 k2 (key h1 k1 r1) (key h2 k2 r2) e

/-- a block that the model has made ahead -/
def Held (sy : Sy) (B B' : Kp) (ρ : Ren) (w : World) (n : Nat) (ob : Obj) : Prop :=
  ∃ i O, ρ n = some i ∧ B'.blk i.blk ∧ ¬ B.blk i.blk ∧ ¬ sy.ro i.blk ∧ w.heap[i.blk]? = some O ∧ ∀ (B2 : Kp) (ρ2 : Ren) (w2 : World), ρ.le ρ2 → ¬ B2.blk i.blk → w2.heap[i.blk]? = some O → ORel sy B2 ρ2 w2 n ob
theorem Held.step {B1 : Kp} {n : Nat} {ob : Obj} (h : Held sy B B1 ρ w n ob) (hk : Kept B1 w w') (hle : ρ.le ρ') : Held sy B B1 ρ' w' n ob := by
  obtain ⟨i, O, h1, h2, h3, hr, h4, h5⟩ := h
  exact ⟨i, O, hle _ _ h1, h2, h3, hr, by rw [hk.block _ h2]; exact h4, fun B2 ρ2 w2 k1 => h5 B2 ρ2 w2 (Ren.le_trans hle k1)⟩

/-- one of them is laid into the executor's heap -/
theorem WRel.lay {h : T Obj} {nx : Nat} {d : List Dfr} {n : Nat} {ob : Obj} {i : BI} {B2 : Kp} (hw : WRel sy G B' w ρ ⟨h, nx, d⟩ w) (hg : h.get n = none) (hi : ρ n = some i) (hB : B'.blk i.blk)
    (hB2 : ∀ k, B2.blk k ↔ B'.blk k ∧ k ≠ i.blk) (hno : ∀ b, B2.no b ↔ B'.no b) (hro : ¬ sy.ro i.blk) (hob : ORel sy B2 ρ w n ob) : WRel sy G B2 w ρ ⟨T.set h ob n, nx, d⟩ w where
  below := Kept.refl _ _
  base := fun k hk => hw.base k ((hB2 k).1 hk).1
  ro := fun k hk => (hB2 k).2 ⟨hw.ro k hk, fun e => hro (e ▸ hk)⟩
  gone := fun b hb => hw.gone b ((hno b).1 hb)
  glob := hw.glob
  dom := hw.dom
  obj := fun b o hb => by
    simp only [T.get_set] at hb
    by_cases e : b = n
    · subst e; rw [if_pos rfl] at hb; cases hb; exact hob
    · rw [if_neg e] at hb
      exact ((hw.shrink (B := B2) (w0 := w) (fun k hk => ((hB2 k).1 hk).1) (fun b hb => (hno b).1 hb) (fun k hk => (hB2 k).2 ⟨hw.ro k hk, fun e => hro (e ▸ hk)⟩) (Kept.refl _ _)).obj b o hb)
  inj := fun b1 b2 o1 o2 i1 i2 h1 k1 h2 k2 r1 r2 e => by
    simp only [T.get_set] at h1 h2
    have key : ∀ {b : Nat} {o : Obj} {j : BI}, h.get b = some o → owned o = true → ρ b = some j → j.blk ≠ i.blk := fun {b o j} hb ho hj e => by
      obtain ⟨j', q1, q2, _⟩ := (hw.obj b o hb).own ho
      rw [hj] at q1; cases q1
      exact q2 (e ▸ hB)
    by_cases e1 : b1 = n
    · by_cases e2 : b2 = n
      · rw [e1, e2]
      · rw [if_neg e2] at h2
        subst e1
        rw [hi] at r1; cases r1
        exact absurd e.symm (key h2 k2 r2)
    · rw [if_neg e1] at h1
      by_cases e2 : b2 = n
      · subst e2
        rw [hi] at r2; cases r2
        exact absurd e (key h1 k1 r1)
      · rw [if_neg e2] at h2
        exact hw.inj b1 b2 o1 o2 i1 i2 h1 k1 h2 k2 r1 r2 e

/-- all that an operation asks for are -/
theorem mat_ok {base : Nat} {p : Nat → Bool} : ∀ (pd : List (Nat × Obj)) (st stm : St) (pd1 : List (Nat × Obj)) (B' : Kp), matF base p pd st = some (stm, pd1) → WRel sy G B' w ρ st w →
    (∀ k, B.blk k → B'.blk k) → (∀ b, B.no b → B'.no b) →
    (pd.map (·.1)).Nodup → (∀ j ob, (j, ob) ∈ pd → p j = true → Held sy B B' ρ w (base + j) ob) →
    (∀ j ob j' ob' i i', (j, ob) ∈ pd → (j', ob') ∈ pd → p j = true → p j' = true → ρ (base + j) = some i → ρ (base + j') = some i' → i.blk = i'.blk → j = j') →
    ∃ B2 : Kp, WRel sy G B2 w ρ stm w ∧ stm.dfs = st.dfs ∧ (∀ k, B.blk k → B2.blk k) ∧ (∀ b, B2.no b ↔ B'.no b) ∧ (∀ k, B2.blk k → B'.blk k) ∧
      ∀ k, B'.blk k → (∀ j ob i, (j, ob) ∈ pd → p j = true → ρ (base + j) = some i → i.blk ≠ k) → B2.blk k
  | [], st, stm, pd1, B', h, hw, hB, hn, _, _, _ => by
    cases h
    exact ⟨B', hw, rfl, hB, fun _ => Iff.rfl, fun _ h => h, fun _ h _ => h⟩
  | (i0, ob0) :: r, st, stm, pd1, B', h, hw, hB, hn, hnd, hh, hd => by
    rw [List.map_cons, List.nodup_cons] at hnd
    unfold matF at h
    simp only at h
    cases hp : p i0 with
    | true =>
      rw [hp] at h
      obtain ⟨hp0, n, d⟩ := st
      simp only at h
      cases hg : hp0.get (Nat.add base i0) with
      | some x => rw [hg] at h; cases h
      | none =>
        rw [hg] at h
        simp only at h
        obtain ⟨bi, O, k1, k2, k3, kr, k4, k5⟩ := hh i0 ob0 (by simp) hp
        have hw1 : WRel sy G ⟨fun k => B'.blk k ∧ k ≠ bi.blk, B'.no⟩ w ρ ⟨T.set hp0 ob0 (Nat.add base i0), n, d⟩ w :=
          hw.lay hg k1 k2 (fun k => Iff.rfl) (fun b => Iff.rfl) kr (k5 _ ρ w (Ren.le_refl _) (fun h => h.2 rfl) k4)
        have hne : ∀ j ob, (j, ob) ∈ r → p j = true → ∀ i, ρ (base + j) = some i → i.blk ≠ bi.blk := fun j ob hj hpj i hi e => by
          have := hd j ob i0 ob0 i bi (by simp [hj]) (by simp) hpj hp hi k1 e
          subst this
          exact hnd.1 (List.mem_map.2 ⟨(j, ob), hj, rfl⟩)
        obtain ⟨B2, q1, q2, q3, q4, q5, q6⟩ := mat_ok r _ _ _ ⟨fun k => B'.blk k ∧ k ≠ bi.blk, B'.no⟩ h hw1 (fun k hk => ⟨hB k hk, fun e => k3 (e ▸ hk)⟩) hn hnd.2
          (fun j ob hj hpj => by
            obtain ⟨i, O', r1, r2, r3, rr, r4, r5⟩ := hh j ob (by simp [hj]) hpj
            exact ⟨i, O', r1, ⟨r2, hne j ob hj hpj i r1⟩, r3, rr, r4, r5⟩)
          (fun j ob j' ob' i i' hj hj' => hd j ob j' ob' i i' (by simp [hj]) (by simp [hj']))
        refine ⟨B2, q1, q2, q3, q4, fun k hk => (q5 k hk).1, fun k hk hall => q6 k ⟨hk, fun e => hall i0 ob0 bi (by simp) hp k1 e.symm⟩ fun j ob i hj => hall j ob i (by simp [hj])⟩
    | false =>
      rw [hp] at h
      simp only at h
      cases hm : matF base p r st with
      | none => rw [hm] at h; cases h
      | some sp =>
        obtain ⟨s1, p1⟩ := sp
        rw [hm] at h
        cases h
        obtain ⟨B2, q1, q2, q3, q4, q5, q6⟩ := mat_ok r _ _ _ B' hm hw hB hn hnd.2 (fun j ob hj => hh j ob (by simp [hj])) (fun j ob j' ob' i i' hj hj' => hd j ob j' ob' i i' (by simp [hj]) (by simp [hj']))
        refine ⟨B2, q1, q2, q3, q4, q5, fun k hk hall => q6 k hk fun j ob i hj => hall j ob i (by simp [hj])⟩

/-! ## The operations that make a block -/
theorem orel_row {ρ2 : Ren} {B2 : Kp} {w2 : World} {cs : List CV} {vs : List Value} {arr : Array Value} {elem : TypeId} {es n : Nat} {inf : Inf} {bi : BI} (h1 : bi.sh = 0) (h2 : bi.ext = 0) (h3 : bi.es = es)
    (hv : VRels sy ρ2 cs vs) (ha : arr.toList = vs) (hinf : ∀ t, inf.ty = some t → elem = t) (hρ : ρ2 n = some bi) (hB : ¬ B2.blk bi.blk) (hh : w2.heap[bi.blk]? = some (.cells arr elem)) :
    ORel sy B2 ρ2 w2 n (.row (rowOf cs 0 .nil) cs.length es 0 inf) := by
  have hsz : arr.size = cs.length := by rw [← Array.length_toList, ha, hv.length]
  refine ⟨bi, arr, elem, (0, 0), hρ, hB, ⟨h3, hinf, fun _ => h1, fun _ => hsz, fun _ => .inl rfl⟩, hh, by rw [h1, h2, hsz]; omega, fun j v hj => ?_, fun j _ _ => by simp⟩
  rw [rowOf_get] at hj
  by_cases hlt : 0 ≤ j ∧ j < 0 + cs.length
  · rw [if_pos hlt] at hj
    obtain ⟨v', q1, q2⟩ := hv.get (j - 0) v hj
    refine ⟨by omega, v', ?_, q2⟩
    rw [h1, Nat.add_zero, ← Array.getElem?_toList, ha]
    simpa using q1
  · rw [if_neg hlt, T.get_nil] at hj; cases hj

/-- what the model does where such an operation runs -/
def MadeR (sy : Sy) (P : Program) (ρ : Ren) (a : Act) (o : Oper) (w : World) (n : Nat) (v : CV) (ob : Obj) : Prop :=
  ∃ O bi v', bi.blk = w.heap.size ∧ (execOp a.eval o).run P w = .ok (.value v') (w.alloc O) ∧ VRel sy (ρ.put n bi) v v' ∧
    ∀ (B2 : Kp) (ρ2 : Ren) (w2 : World), (ρ.put n bi).le ρ2 → ¬ B2.blk bi.blk → w2.heap[bi.blk]? = some O → ORel sy B2 ρ2 w2 n ob

theorem made_ok {n : Nat} {v : CV} {ob : Obj} (hm : makes o = true) (hop : (opF P cx o.op).f call env loc ⟨.nil, n, []⟩ = .ok v st') (hob : st'.heap.get n = some ob)
    (hs : SR sy G cx ρ env loc a) (hw : WRel sy G B' w ρ st w) (hn : ρ n = none) : MadeR sy P ρ a o w n v ob := by
  unfold makes at hm
  split at hm
  · cases hm
  · split at hm
    · rename_i t ho
      rw [ho] at hop
      simp only [opF] at hop
      unfold oAlloc at hop
      cases hz : zeroOf P t with
      | none => rw [hz] at hop; cases hop
      | some z =>
        rw [hz] at hop
        cases hsz : szOf P t with
        | none => rw [hsz] at hop; cases hop
        | some es =>
          rw [hsz] at hop
          simp only [newRow_eq] at hop
          cases hop
          rw [T.get_set, if_pos rfl] at hob
          cases hob
          obtain ⟨v, h1, h2, h3, _⟩ := run_zero (sy := sy) hz w ρ
          refine ⟨.cells v.cells t, ⟨w.heap.size, 0, 0, es⟩, .pointer (some ⟨w.heap.size, 0, none⟩), rfl, by simp [execOp, ho, Instr.alloc, h1, newVar, run_newRow], ?_, fun B2 ρ2 w2 hle hB hh => ?_⟩
          · simp only [VRel]; exact ⟨_, Ren.put_same _ _ _, by simp⟩
          · exact orel_row rfl rfl rfl ((cellsOf_rel h3 h2).mono sy (Ren.le_trans (Ren.le_put hn) hle)) rfl (fun _ h => Option.some.inj h) (hle _ _ (Ren.put_same _ _ _)) hB hh
    · rename_i t m parts ho
      rw [ho] at hop
      simp only [opF] at hop
      unfold oBuildSlice at hop
      cases he : elemOfSlice P t with
      | none => rw [he] at hop; cases hop
      | some e =>
        rw [he] at hop
        have hu := elemOfSlice_spec he
        cases hes : szOf P e with
        | none => simp only [hes] at hop; cases hop
        | some es =>
          cases hz : zeroOf P e with
          | none => simp only [hes, hz] at hop; cases hop
          | some z =>
            simp only [hes, hz] at hop
            cases hc : (Nat.ble (Nat.mul m es) 16777216 && Nat.beq (len (cellsOf z)) es) with
            | false => rw [hc] at hop; cases hop
            | true =>
              rw [hc] at hop
              simp only [Bool.and_eq_true, Nat.beq_eq, len_eq] at hc
              have hc1 : m * es ≤ 16777216 := by have := hc.1; simpa [Nat.ble_eq] using this
              obtain ⟨zv, z1, z2, z3, _⟩ := run_zero (sy := sy) hz w ρ
              simp only [cond_true] at hop
              unfold buildSliceF at hop
              simp only at hop
              have hcs := cellsOf_rel z3 z2
              have hrep := repL_rel hcs m
              rcases fill_rel hs hw parts.toList _ _ _ (len_eq _).symm hrep hop with ⟨k, hk⟩ | ⟨cs', vs', hr, h2, h3, h4⟩
              · cases hk
              · rw [newRow_eq] at hr
                cases hr
                rw [T.get_set, if_pos rfl] at hob
                cases hob
                refine ⟨.cells vs' e, ⟨w.heap.size, 0, 0, es⟩, .slice (some ⟨w.heap.size, 0, none⟩) m m, rfl, ?_, ?_, fun B2 ρ2 w2 hle hB hh => ?_⟩
                · have hzz : zv.cells.size = es := by rw [← Array.length_toList, hcs.length]; exact hc.2
                  have key : Instr.fill (fun i => some (i * es, es)) ((Array.range (m * es)).map fun j => zv.cells[j % zv.cells.size]!) (parts.map fun p => (p.1, a.eval p.2)).toList = some vs' := by
                    rw [hc.2] at h4
                    simpa using h4
                  simp only [execOp, ho, Sem.run_bind, run_buildSlice hu hes z1 hc1 key, Result.andThen, Sem.run_pure]
                · simp only [VRel]; exact ⟨_, Ren.put_same _ _ _, by simp⟩
                · exact orel_row rfl rfl rfl (h3.mono sy (Ren.le_trans (Ren.le_put hn) hle)) rfl (fun _ h => by cases h) (hle _ _ (Ren.put_same _ _ _)) hB hh
    · rename_i t r ho
      cases r with
      | some x => simp at hm
      | none =>
        rw [ho] at hop
        simp only [opF] at hop
        have hop' : newObj (.map [] 0) ⟨.nil, n, []⟩ (fun b st => RV.ok (.map b) st) = .ok v st' := hop
        rw [newObj_eq] at hop'
        cases hop'
        rw [T.get_set, if_pos rfl] at hob
        cases hob
        refine ⟨.map #[] 0, ⟨w.heap.size, 0, 0, 0⟩, .map (some w.heap.size), rfl, by simp [execOp, ho, Instr.makeMap], ?_, fun B2 ρ2 w2 hle hB hh => ?_⟩
        · simp only [VRel]; exact ⟨_, Ren.put_same _ _ _, rfl⟩
        · exact ⟨_, #[], hle _ _ (Ren.put_same _ _ _), hB, hh, by simp [EntRel]⟩
    · cases hm

/-! ## Stores without an order -/
def GetEq (s s' : St) : Prop := (∀ b, s.heap.get b = s'.heap.get b) ∧ s.next = s'.next ∧ s.dfs = s'.dfs
theorem WRel.of_get {s s' : St} (he : GetEq s s') (h : WRel sy G B w0 ρ s w) : WRel sy G B w0 ρ s' w where
  below := h.below
  base := h.base
  ro := h.ro
  gone := fun b hb => by rw [← he.2.1]; exact h.gone b hb
  glob := h.glob
  dom := fun b i hb => by rw [← he.2.1]; exact h.dom b i hb
  obj := fun b o hb => h.obj b o (by rw [he.1]; exact hb)
  inj := fun b1 b2 o1 o2 i1 i2 h1 k1 h2 => h.inj b1 b2 o1 o2 i1 i2 (by rw [he.1]; exact h1) k1 (by rw [he.1]; exact h2)

/-- a store: what it reads of the heap, what it writes -/
theorem store_spec {t : Nat} {x y : Operand} {s s1 : St} {v : CV} (h : (opF P cx (.store t x y)).f call env loc s = .ok v s1) :
    ∃ b ofs, (ev cx x).f env loc = .ptr b ofs ∧ ∃ f : Obj → Option Obj, (∀ s : St, ∀ o o', s.heap.get b = some o → f o = some o' → (opF P cx (.store t x y)).f call env loc s = .ok (.tup []) ⟨T.set s.heap o' b, s.next, s.dfs⟩) ∧
      ∃ o o', s.heap.get b = some o ∧ f o = some o' ∧ v = .tup [] ∧ s1 = ⟨T.set s.heap o' b, s.next, s.dfs⟩ := by
  simp only [opF] at h ⊢
  unfold oStore at h ⊢
  cases hn : szOf P t with
  | none => rw [hn] at h; cases h
  | some n =>
    rw [hn] at h
    simp only at h ⊢
    cases hx : (ev cx x).f env loc <;> rw [hx] at h <;> simp only at h <;> try (cases h; done)
    rename_i b ofs
    refine ⟨b, ofs, rfl, ?_⟩
    cases hl : Nat.beq (len (cellsOf ((ev cx y).f env loc))) n with
    | false => rw [hl] at h; cases h
    | true =>
      rw [hl] at h
      simp only [cond_true] at h
      generalize cellsOf ((ev cx y).f env loc) = l at h hl
      unfold storeAt at h ⊢
      refine ⟨fun o => match o with
        | .row cells m es fr inf => bif Nat.ble fr ofs && (Nat.ble (Nat.add ofs (len l)) m && l.all oneCell) then some (.row (storeL l cells ofs) m es fr inf) else none
        | _ => none, fun s o o' ho hf => ?_, ?_⟩
      · obtain ⟨hp, nx, d⟩ := s
        simp only at ho hf ⊢
        cases o <;> simp only at hf <;> try (cases hf; done)
        rename_i cells m es fr inf
        cases hb : (Nat.ble fr ofs && (Nat.ble (Nat.add ofs (len l)) m && l.all oneCell)) with
        | false => rw [hb] at hf; cases hf
        | true =>
          rw [hb] at hf
          cases hf
          simp only [ho, hb, cond_true, setObj]
      · cases ho : s.heap.get b with
        | none => rw [ho] at h; cases h
        | some o =>
          rw [ho] at h
          simp only at h
          cases o <;> simp only at h <;> try (cases h; done)
          rename_i cells m es fr inf
          cases hb : (Nat.ble fr ofs && (Nat.ble (Nat.add ofs (len l)) m && l.all oneCell)) with
          | false => rw [hb] at h; cases h
          | true =>
            rw [hb] at h
            obtain ⟨hp, nx, d⟩ := s
            simp only [cond_true, setObj] at h
            cases h
            refine ⟨_, .row (storeL l cells ofs) m es fr inf, rfl, ?_, rfl, rfl⟩
            simp only [hb, cond_true]

theorem store_comm {t1 t2 : Nat} {x1 y1 x2 y2 : Operand} {env1 env2 : List CV} {loc1 loc2 : Loc} {s0 s1 s2 alt : St} {v1 v2 v3 : CV} {b1 o1 b2 o2 : Nat} (h1 : (opF P cx (.store t1 x1 y1)).f call env1 loc1 s0 = .ok v1 s1)
    (h2 : (opF P cx (.store t2 x2 y2)).f call env2 loc2 s1 = .ok v2 s2) (h3 : (opF P cx (.store t2 x2 y2)).f call env2 loc2 s0 = .ok v3 alt)
    (e1 : (ev cx x1).f env1 loc1 = .ptr b1 o1) (e2 : (ev cx x2).f env2 loc2 = .ptr b2 o2) (hne : b1 ≠ b2) : v3 = v2 ∧ ∃ s', (opF P cx (.store t1 x1 y1)).f call env1 loc1 alt = .ok v1 s' ∧ GetEq s' s2 := by
  obtain ⟨b, _, a1, f1, p1, ob1, ob1', q1, q2, rfl, rfl⟩ := store_spec h1
  rw [e1] at a1; cases a1
  obtain ⟨b, _, a2, f2, p2, ob2, ob2', r1, r2, rfl, rfl⟩ := store_spec h2
  rw [e2] at a2; cases a2
  simp only [T.get_set] at r1
  rw [if_neg (Ne.symm hne)] at r1
  have h3' := p2 s0 _ _ r1 r2
  rw [h3] at h3'
  cases h3'
  refine ⟨rfl, _, p1 ⟨T.set s0.heap ob2' b2, s0.next, s0.dfs⟩ ob1 ob1' (by simp only [T.get_set]; rw [if_neg hne]; exact q1) q2, fun b => ?_, rfl, rfl⟩
  simp only [T.get_set]
  by_cases c1 : b = b1
  · subst c1
    rw [if_pos rfl, if_neg hne]
    simp
  · by_cases c2 : b = b2
    · subst c2; simp [c1]
    · simp [c1, c2]
end
end Go.Proofs.YtbmbjaogcmokoaaGreatDoorX
