/- Operations: what the executor says of one, the model does (2). -/
import Derived.Test.YtbmbjaogcmokoaaGreatDoorXOps1
namespace Go.Proofs.YtbmbjaogcmokoaaGreatDoorX
open Go Go.RowKit
set_option linter.unusedVariables false

section
variable {sy : Sy} {G : Nat} {B : Kp} {w0 : World} {P : Program} {ρ ρ' : Ren} {cx : Cx} {env : List CV} {loc : Loc} {a : Act} {st st' : St} {w w' : World} {o : Oper} {call : Caller}

theorem pure_val {v : CV} {v' : Value} (hr : (execOp a.eval o).run P w = .ok (.value v') w) (hw : WRel sy G B w0 ρ st w) (hd : DRel sy ρ st.dfs a.defers) (hv : VRel sy ρ v v') :
    OpRes sy G B w0 P ρ a o w (.ok v st) := ok_val hr (Ren.le_refl _) hv hw hd

theorem move_ok {x : Operand} (ho : o.op = .move x ∨ o.op = .assign x) (hs : SR sy G cx ρ env loc a) (hd : DRel sy ρ st.dfs a.defers) (hw : WRel sy G B w0 ρ st w) :
    OpRes sy G B w0 P ρ a o w ((oMove (ev cx x)).f call env loc st) := by
  refine pure_val ?_ hw hd (evRel hs hw x)
  rcases ho with h | h <;> simp [execOp, h]

theorem pick_ok {c x y : Operand} (ho : o.op = .pick c x y) (hs : SR sy G cx ρ env loc a) (hd : DRel sy ρ st.dfs a.defers) (hw : WRel sy G B w0 ρ st w) :
    OpRes sy G B w0 P ρ a o w ((oPick (ev cx c) (ev cx x) (ev cx y)).f call env loc st) := by
  have hc := evRel hs hw c
  have hx := evRel hs hw x
  have hy := evRel hs hw y
  unfold oPick
  simp only
  generalize (ev cx c).f env loc = v at *
  cases v <;> try exact trivial
  rename_i t
  simp only [VRel] at hc
  cases t
  · exact pure_val (by simp [execOp, ho, hc, asBool]) hw hd hy
  · exact pure_val (by simp [execOp, ho, hc, asBool]) hw hd hx

theorem nilCheck_ok {x : Operand} (ho : o.op = .nilCheck x) (hs : SR sy G cx ρ env loc a) (hd : DRel sy ρ st.dfs a.defers) (hw : WRel sy G B w0 ρ st w) :
    OpRes sy G B w0 P ρ a o w ((oNilCheck (ev cx x)).f call env loc st) := by
  have hx := evRel hs hw x
  unfold oNilCheck
  simp only
  generalize (ev cx x).f env loc = v at *
  cases v <;> try exact trivial
  · have hx' := hx
    simp only [VRel] at hx
    obtain ⟨i, _, e⟩ := hx
    exact pure_val (by simp [execOp, ho, e]) hw hd (e ▸ hx')
  · have hx' := hx
    simp only [VRel] at hx
    obtain ⟨i, _, e⟩ := hx
    exact pure_val (by simp [execOp, ho, e]) hw hd (e ▸ hx')
  · rename_i fn fi ca
    cases fn <;> try exact trivial
    have hx' := hx
    simp only [VRel] at hx
    obtain ⟨fi', ca', e, _⟩ := hx
    exact pure_val (by simp [execOp, ho, e]) hw hd (e ▸ hx')

theorem run_newRow (elem : TypeId) (cells : Array Value) (w : World) : (Go.newRow elem cells).run P w = .ok ⟨w.heap.size, 0, none⟩ (w.alloc (.cells cells elem)) := rfl
theorem run_newObj (O : Go.Obj) (w : World) : (Go.newObj O).run P w = .ok w.heap.size (w.alloc O) := rfl

theorem cells_size {z : CV} {v : Value} (hz : z ≠ .unk) (h : VRel sy ρ z v) : v.cells.toList.length = (cellsOf z).length := (cellsOf_rel hz h).length

theorem newRow_ok {cs : List CV} {vs : List Value} {es : Nat} {inf : Inf} {K : Nat → St → RV} (hcs : VRels sy ρ cs vs) (hw : WRel sy G B w0 ρ st w) {arr : Array Value} {elem : TypeId} (ha : arr.toList = vs) (hinf : ∀ t, inf.ty = some t → elem = t)
    (hK : ∀ st1, st1.dfs = st.dfs → ρ.le (ρ.put st.next ⟨w.heap.size, 0, 0, es⟩) → (ρ.put st.next ⟨w.heap.size, 0, 0, es⟩) st.next = some ⟨w.heap.size, 0, 0, es⟩ →
      WRel sy G B w0 (ρ.put st.next ⟨w.heap.size, 0, 0, es⟩) st1 (w.alloc (.cells arr elem)) → OpRes sy G B w0 P ρ a o w (K st.next st1)) :
    OpRes sy G B w0 P ρ a o w (newRow cs es inf st K) := by
  obtain ⟨h, n, d⟩ := st
  rw [newRow_eq]
  exact hK ⟨_, n + 1, d⟩ rfl (Ren.le_put hw.fresh) (Ren.put_same _ _ _) (hw.row (rest := []) (ext := 0) hcs (by simpa using ha) (by simp) ⟨hinf, fun _ => rfl⟩)

theorem alloc_ok {t : Nat} (ho : o.op = .alloc t) (hs : SR sy G cx ρ env loc a) (hd : DRel sy ρ st.dfs a.defers) (hw : WRel sy G B w0 ρ st w) :
    OpRes sy G B w0 P ρ a o w ((oAlloc t (zeroOf P t) (szOf P t)).f call env loc st) := by
  unfold oAlloc
  cases hz : zeroOf P t with
  | none => exact trivial
  | some z =>
    cases hn : szOf P t with
    | none => exact trivial
    | some n =>
      simp only
      obtain ⟨v, h1, h2, h3, _⟩ := run_zero (sy := sy) hz w ρ
      refine newRow_ok (cellsOf_rel h3 h2) hw (arr := v.cells) (elem := t) rfl (fun _ h => Option.some.inj h) fun st1 hd1 hle hsame hw1 => ?_
      exact ok_val (v' := .pointer (some ⟨w.heap.size, 0, none⟩)) (w' := w.alloc (.cells v.cells t)) (by simp [execOp, ho, Instr.alloc, h1, newVar, run_newRow]) hle
        (by simp only [VRel]; exact ⟨_, hsame, by simp⟩) hw1 (by rw [hd1]; exact hd)

theorem box_ok {t : Nat} {x : Operand} (ho : o.op = .box t x) (hs : SR sy G cx ρ env loc a) (hd : DRel sy ρ st.dfs a.defers) (hw : WRel sy G B w0 ρ st w) :
    OpRes sy G B w0 P ρ a o w ((oBox t (szOf P t) (ev cx x)).f call env loc st) := by
  unfold oBox
  cases hn : szOf P t with
  | none => exact trivial
  | some n =>
    have hx := evRel hs hw x
    simp only
    generalize hv : (ev cx x).f env loc = v at *
    have main : v ≠ .unk → OpRes sy G B w0 P ρ a o w (newRow (cellsOf v) n ⟨some t, true, true, true⟩ st fun b st => .ok (.ptr b 0) st) := fun hu => by
      refine newRow_ok (cellsOf_rel hu hx) hw (arr := (a.eval x).cells) (elem := t) rfl (fun _ h => Option.some.inj h) fun st1 hd1 hle hsame hw1 => ?_
      exact ok_val (v' := .pointer (some ⟨w.heap.size, 0, none⟩)) (w' := w.alloc (.cells (a.eval x).cells t)) (by simp [execOp, ho, Instr.box, newVar, run_newRow]) hle
        (by simp only [VRel]; exact ⟨_, hsame, by simp⟩) hw1 (by rw [hd1]; exact hd)
    cases v <;> first | exact trivial | exact main (by simp)

theorem load_ok {t : Nat} {x : Operand} (ho : o.op = .load t x) (hs : SR sy G cx ρ env loc a) (hd : DRel sy ρ st.dfs a.defers) (hw : WRel sy G B w0 ρ st w) :
    OpRes sy G B w0 P ρ a o w ((oLoad (aggOf P t) (szOf P t) (ev cx x)).f call env loc st) := by
  unfold oLoad
  cases hg : aggOf P t with
  | none => exact trivial
  | some g =>
    cases hn : szOf P t with
    | none => exact trivial
    | some n =>
      have hx := evRel hs hw x
      simp only
      generalize (ev cx x).f env loc = v at *
      cases v <;> try exact trivial
      rename_i b ofs
      simp only [VRel] at hx
      obtain ⟨i, hi, e⟩ := hx
      simp only
      generalize hr : loadAt g n b ofs st (fun v => .ok v st) = r
      rcases run_loadVar hg hn hw hi hr with ⟨k, rfl⟩ | ⟨v, v', rfl, hv, hrun⟩
      · exact trivial
      · exact pure_val (by simp [execOp, ho, Instr.loadAt, e, Instr.sureAddr, hrun]) hw hd hv

theorem all_one {l : List CV} {l' : List Value} (h : VRels sy ρ l l') (k : l.all oneCell = true) : ∀ v ∈ l', isOne v = true := by
  induction l generalizing l' with
  | nil => simp only [VRels] at h; subst h; simp
  | cons x r ih =>
    simp only [VRels] at h
    obtain ⟨y, s, rfl, hx, hr⟩ := h
    simp only [List.all_cons, Bool.and_eq_true] at k
    intro v hv
    rcases List.mem_cons.1 hv with rfl | hv
    · exact oneCell_rel k.1 hx
    · exact ih hr k.2 v hv

/-- cells are stored in a row -/
theorem storeAt_rel {l : List CV} {vs : List Value} {b ofs : Nat} {i : BI} {K : St → RV} {r : RV} (hl : VRels sy ρ l vs) (hw : WRel sy G B w0 ρ st w) (hi : ρ b = some i) (hr : storeAt l b ofs st K = r) :
    (∃ k, r = .err k) ∨ ∃ st' w', K st' = r ∧ st'.dfs = st.dfs ∧ WRel sy G B w0 ρ st' w' ∧ (storeCells ⟨i.blk, ofs + i.sh, none⟩ vs).run P w = .ok () w' := by
  obtain ⟨h, n, d⟩ := st
  unfold storeAt at hr
  cases hb : h.get b with
  | none => rw [show (⟨h, n, d⟩ : St).heap.get b = none from hb] at hr; exact .inl ⟨_, hr.symm⟩
  | some x =>
    rw [show (⟨h, n, d⟩ : St).heap.get b = some x from hb] at hr
    cases x <;> simp only at hr <;> try exact .inl ⟨_, hr.symm⟩
    rename_i cells m es fr inf
    cases hc : (Nat.ble fr ofs && (Nat.ble (Nat.add ofs (len l)) m && l.all oneCell)) with
    | false => rw [hc] at hr; exact .inl ⟨_, hr.symm⟩
    | true =>
      rw [hc] at hr
      simp only [cond_true, setObj_eq] at hr
      simp only [Bool.and_eq_true, Nat.ble_eq, len_eq] at hc
      obtain ⟨h1, h2, h3⟩ := hc
      have h2' : ofs + l.length ≤ m := h2
      have hox := hw.obj b _ hb
      obtain ⟨i', c, e, fz, k1, k2, k3, k4, k5, k6, k7⟩ := hox
      rw [hi] at k1; cases k1
      have hlen := hl.length
      obtain ⟨c', z1, z2, z3⟩ := run_storeCells (P := P) vs w i.blk (ofs + i.sh) 0 c e fz k4 (by omega)
        (fun j hj => by
          have := k7 (ofs + j) (by omega) (by omega)
          rw [show ofs + i.sh + 0 + j = ofs + j + i.sh by omega]; exact this) (all_one hl h3)
      refine .inr ⟨_, _, hr, rfl, ?_, z2⟩
      have hlt : i.blk < w.heap.size := (Array.getElem?_eq_some_iff.1 k4).1
      refine hw.update hb rfl hi k2 ?_ (fun k hk => setRow_heap_ne hk _ _ _) ?_
      · exact ⟨rfl, rfl, rfl, by rw [setRow_size]; exact Nat.le_refl _, fun k hk => setRow_heap_ne (by intro e; rw [e] at hk; exact k2 hk) _ _ _⟩
      · refine ⟨i, c', e, fz, hi, k2, ⟨k3.1, k3.2.1, k3.2.2.1, fun h => (by rw [z1]; exact k3.2.2.2.1 h), k3.2.2.2.2⟩, setRow_heap_same hlt _ _ _, by omega, fun j v hj => ?_, k7⟩
        rw [storeL_get] at hj
        by_cases hin : ofs ≤ j ∧ j < ofs + l.length
        · rw [if_pos hin] at hj
          obtain ⟨v', q1, q2⟩ := hl.get _ _ hj
          refine ⟨by omega, v', ?_, q2⟩
          rw [z3, if_pos (by omega), show j + i.sh - (ofs + i.sh + 0) = j - ofs by omega]
          exact q1
        · rw [if_neg hin] at hj
          obtain ⟨q0, v', q1, q2⟩ := k6 j v hj
          refine ⟨q0, v', ?_, q2⟩
          rw [z3, if_neg (by omega)]
          exact q1

theorem store_ok {t : Nat} {x y : Operand} (ho : o.op = .store t x y) (hs : SR sy G cx ρ env loc a) (hd : DRel sy ρ st.dfs a.defers) (hw : WRel sy G B w0 ρ st w) :
    OpRes sy G B w0 P ρ a o w ((oStore (szOf P t) (ev cx x) (ev cx y)).f call env loc st) := by
  unfold oStore
  cases hn : szOf P t with
  | none => exact trivial
  | some n =>
    have hx := evRel hs hw x
    have hy := evRel hs hw y
    simp only
    generalize (ev cx x).f env loc = v at *
    cases v <;> try exact trivial
    rename_i b ofs
    simp only [VRel] at hx
    obtain ⟨i, hi, e⟩ := hx
    simp only
    generalize (ev cx y).f env loc = u at *
    cases hlen : Nat.beq (len (cellsOf u)) n with
    | false => exact trivial
    | true =>
      simp only [cond_true]
      by_cases hu : u = .unk
      · subst hu
        generalize hr : storeAt (cellsOf .unk) b ofs st (fun st => RV.ok (.tup []) st) = r
        have : ∃ k, r = .err k := by
          subst hr
          unfold storeAt
          split
          · split
            · simp [cellsOf, oneCell]
            · exact ⟨_, rfl⟩
          · exact ⟨_, rfl⟩
        obtain ⟨k, rfl⟩ := this
        exact trivial
      · have hcs := cellsOf_rel hu hy
        generalize hr : storeAt (cellsOf u) b ofs st (fun st => RV.ok (.tup []) st) = r
        rcases storeAt_rel (P := P) hcs hw hi hr with ⟨k, rfl⟩ | ⟨st1, w1, rfl, hd1, hw1, hrun⟩
        · exact trivial
        · refine ok_skip (w' := w1) ?_ (Ren.le_refl _) hw1 (by rw [hd1]; exact hd)
          have hl : (a.eval y).cells.size = n := by
            have h1 := hcs.length
            have h2 : (cellsOf u).length = n := by rw [← len_eq]; exact Nat.eq_of_beq_eq_true hlen
            rw [← Array.length_toList]; omega
          simp [execOp, ho, Instr.storeAt, e, Instr.sureAddr, storeVar, run_size hn, hl, hrun]
end
end Go.Proofs.YtbmbjaogcmokoaaGreatDoorX
