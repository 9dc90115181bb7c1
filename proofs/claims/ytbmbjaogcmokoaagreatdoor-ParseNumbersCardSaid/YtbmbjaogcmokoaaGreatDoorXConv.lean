/- Operations: conversions. -/
import Derived.Test.YtbmbjaogcmokoaaGreatDoorXOps7
import Derived.Lib.ConvBytes
namespace Go.Proofs.YtbmbjaogcmokoaaGreatDoorX
open Go Go.RowKit
set_option linter.unusedVariables false

section
variable {sy : Sy} {G : Nat} {B : Kp} {w0 : World} {P : Program} {ρ ρ' : Ren} {cx : Cx} {env : List CV} {loc : Loc} {a : Act} {st st' : St} {w w' : World} {o : Oper} {call : Caller}

theorem isU8_spec {e : Nat} (h : isU8 P e = true) : P.underlying e = some (.int .u8) := by
  unfold isU8 at h
  cases hu : P.underlying e with
  | none => rw [hu] at h; cases h
  | some d =>
    rw [hu] at h
    cases d <;> simp at h
    rw [h]
theorem packC_rel : ∀ (cs : List CV) (vs : List Value) (K : Nat → RV) (r : RV), VRels sy ρ cs vs → packC cs K = r → (∃ k, r = .err k) ∨ ∃ n, K n = r ∧ vs = (bytesL cs.length n).map fun b => Value.int .u8 b.toNat
  | [], vs, K, r, h, hr => by
    simp only [VRels] at h
    subst h
    exact .inr ⟨0, hr, rfl⟩
  | c :: cs, vs, K, r, h, hr => by
    simp only [VRels] at h
    obtain ⟨y, s, rfl, hy, hs⟩ := h
    unfold packC at hr
    cases c <;> try exact .inl ⟨_, hr.symm⟩
    rename_i k v
    cases v with
    | negSucc m => exact .inl ⟨_, hr.symm⟩
    | ofNat m =>
      simp only at hr
      cases hb : decide (k = .u8) && Nat.blt m 256 with
      | false => rw [hb] at hr; exact .inl ⟨_, hr.symm⟩
      | true =>
        rw [hb] at hr
        simp only [cond_true] at hr
        rw [Bool.and_eq_true] at hb
        obtain ⟨h1, h2⟩ := hb
        have hk : k = .u8 := of_decide_eq_true h1
        have hm : m < 256 := by simpa [Nat.blt_eq] using h2
        subst hk
        rcases packC_rel cs s (fun r => forceN K (Nat.add m (Nat.mul 256 r))) r hs hr with h | ⟨n, h1, h2⟩
        · exact .inl h
        · refine .inr ⟨m + 256 * n, ?_, ?_⟩
          · rw [← h1]; show _ = forceN K _; rw [forceN_eq]; rfl
          · simp only [VRel] at hy
            subst hy
            rw [List.length_cons, bytesL_succ, List.map_cons]
            rw [show (m + 256 * n) / 256 = n by omega, h2]
            congr 1
            have : (UInt8.ofNat (m + 256 * n)).toNat = m := by simp [UInt8.toNat_ofNat']; omega
            first
              | rw [this]; rfl
              | simp [UInt8.toNat_ofNat']; omega

theorem run_pushBytes {P : Program} {w : World} : ∀ (l : List UInt8) (s : ByteArray), (forIn (m := Sem) (l.map fun b => Value.int .u8 b.toNat) s fun c r => match c with
      | Value.int IntKind.u8 n => pure (ForInStep.yield (r.push (UInt8.ofNat n.toNat)))
      | x => do
        stuck "bytesToString: byte expected"
        pure (ForInStep.yield r)).run P w = .ok ⟨s.data ++ l.toArray⟩ w
  | [], s => by simp
  | b :: l, s => by
    rw [List.map_cons, List.forIn_cons]
    simp only [Sem.run_bind, Sem.run_pure, Result.andThen]
    rw [run_pushBytes l]
    simp [ByteArray.push]

theorem run_bytesToString {base : Addr} {l cp n : Nat} (h : (loadCells base l).run P w = .ok ((bytesL l n).map fun b => Value.int .u8 b.toNat).toArray w) : (Conv.bytesToString (.slice (some base) l cp)).run P w = .ok (.string (bytesOf l n)) w := by
  unfold Conv.bytesToString
  simp only [Sem.run_bind, h, Result.andThen]
  rw [List.forIn_toArray]
  have := run_pushBytes (P := P) (w := w) (bytesL l n) ByteArray.empty
  rw [show (ByteArray.empty.data ++ (bytesL l n).toArray) = (bytesL l n).toArray from Array.empty_append] at this
  erw [this]
  rfl

theorem strOf_rel {x : CV} {x' : Value} {K : Nat → Nat → RV} {r : RV} (hx : VRel sy ρ x x') (hr : strOf x K = r) : (∃ k, r = .err k) ∨ ∃ l n, K l n = r ∧ x' = .string (bytesOf l n) := by
  unfold strOf at hr
  cases x <;> try exact .inl ⟨_, hr.symm⟩
  simp only [VRel] at hx
  exact .inr ⟨_, _, hr, hx⟩

theorem bytesOfStr_ok {s t e : TypeId} {x : Operand} {d1 : TypeDesc} (ho : o.op = .convert s t x) (h1 : P.underlying s = some d1) (h2 : P.underlying t = some (.slice e)) (h3 : P.underlying e = some (.int .u8)) {u : CV} (hx : VRel sy ρ u (a.eval x))
    (hd : DRel sy ρ st.dfs a.defers) (hw : WRel sy G B w0 ρ st w) : OpRes sy G B w0 P ρ a o w (bytesOfStr u st) := by
  rcases strOf_rel hx (rfl : bytesOfStr u st = _) with ⟨k, h⟩ | ⟨l, n, h, hs⟩
  · rw [h]; exact trivial
  · rw [← h]
    obtain ⟨hp, nx, d⟩ := st
    rw [rowF_eq]
    have hsz : (bytesOf l n).size = l := bytesOf_size l n
    have hdat : (bytesOf l n).data.toList = bytesL l n := by simp [bytesOf]
    have hcap : l ≤ grownCap w l 0 e := by
      unfold grownCap
      exact Nat.le_add_right _ _
    have hrun := Lib.run_convert_string_bytes w s t e (bytesOf l n) h1 h2 h3
    rw [hsz] at hrun
    have hbc : (Lib.bytesCells w e (bytesOf l n)).toList = ((bytesL l n).map fun b => Value.int .u8 b.toNat) ++ List.replicate (grownCap w l 0 e - l) (.int .u8 0) := by
      unfold Lib.bytesCells
      rw [Array.toList_append, Array.toList_map, hdat, Array.toList_replicate, hsz]
    generalize grownCap w l 0 e = cap at *
    have hbs : (Lib.bytesCells w e (bytesOf l n)).size = cap := by
      rw [← Array.length_toList, hbc]
      simp [bytesL_length]
      omega
    have hv := byteCells_rel (sy := sy) (ρ := ρ) l n
    have hlen : (byteCells l n).length = l := by rw [← hv.length]; simp [bytesL_length]
    have hw1 := (hw.drew').rowFz (cs := byteCells l n) (arr := Lib.bytesCells w e (bytesOf l n)) (vs := (bytesL l n).map fun b => .int .u8 b.toNat) (rest := List.replicate (cap - l) (.int .u8 0)) (ext := cap - l) (es := 1) (fr := 0) (elem := e) (fz := (cap, cap + 1)) hv hbc (by simp)
      (fun j h => by rw [hlen] at h; simp only; omega) rfl
    have hheap : (Lib.bytesWorld w e (bytesOf l n)).heap = (w.drew.alloc (.cells (Lib.bytesCells w e (bytesOf l n)) e (cap, cap + 1))).heap := by
      apply Array.ext_getElem?
      intro j
      rcases Nat.lt_trichotomy j w.heap.size with hj | hj | hj
      · rw [Lib.bytesWorld_at_old w e _ j hj]
        simp [World.alloc, World.drew, Array.getElem?_push, -World.alloc_eq, -World.drew_eq]
        intro h; omega
      · subst hj
        rw [Lib.bytesWorld_at_new, hbs]
        simp [World.alloc, World.drew, -World.alloc_eq, -World.drew_eq]
      · rw [Array.getElem?_eq_none (by rw [Lib.bytesWorld_size]; omega), Array.getElem?_eq_none (by simp [World.alloc, World.drew, -World.alloc_eq, -World.drew_eq]; omega)]
    have hw2 := hw1.of_heap (w' := Lib.bytesWorld w e (bytesOf l n)) hheap rfl rfl rfl
    refine ok_val (v' := .slice (some ⟨w.heap.size, 0, none⟩) l cap) ?_ (Ren.le_put hw.fresh) ?_ hw2 hd
    · simp [execOp, ho, hs, hrun]
    · simp only [VRel]
      refine ⟨_, Ren.put_same _ _ _, ?_⟩
      simp only [if_true, Nat.zero_add]
      rw [show l + (cap - l) = cap by omega]
      rfl

theorem strOfBytes_ok {s t e : TypeId} {x : Operand} (ho : o.op = .convert s t x) (h1 : P.underlying s = some (.slice e)) (h2 : P.underlying t = some .string) (h3 : P.underlying e = some (.int .u8)) {u : CV} (hx : VRel sy ρ u (a.eval x))
    (hd : DRel sy ρ st.dfs a.defers) (hw : WRel sy G B w0 ρ st w) : OpRes sy G B w0 P ρ a o w (strOfBytes u st) := by
  have hconv : ∀ v, (Conv.bytesToString (a.eval x)).run P w = .ok v w → (execOp a.eval o).run P w = .ok (.value v) w := fun v h => by
    have : (convert s t (a.eval x)).run P w = .ok v w := by
      simp only [convert, Sem.run_bind, run_under h1, run_under h2, Result.andThen]
      generalize a.eval x = y at h
      cases y <;> simp [run_under h3, Conv.bytesToString] at h ⊢ <;> first | exact h | skip
    simp [execOp, ho, this]
  unfold strOfBytes
  cases u <;> try exact trivial
  · rename_i b of l c q
    simp only
    cases hc : cellsAt b st with
    | none => exact trivial
    | some cells =>
      simp only
      cases hl : loadN cells l of with
      | none => exact trivial
      | some cs =>
        simp only
        simp only [VRel] at hx
        obtain ⟨i, hi, he⟩ := hx
        obtain ⟨i', c', e', fz, k1, k2, k3⟩ := cellsAt_rel hw hc
        rw [hi] at k1; cases k1
        obtain ⟨l', q1, q2, q3⟩ := loadN_rel k3 hl
        rcases packC_rel cs l' _ _ q2 rfl with ⟨k, h⟩ | ⟨n, h, hv⟩
        · rw [h]; exact trivial
        · rw [← h]
          have hcl : cs.length = l := by rw [← q2.length]; exact q1
          rw [hcl] at hv
          refine pure_val (v' := .string (bytesOf l n)) (hconv _ ?_) hw hd (by simp only [VRel])
          rw [he]
          refine run_bytesToString ?_
          rw [← hv]
          have := run_loadCells (P := P) (b := i.blk) (o := of + i.sh) k2 l' (by rw [q1]; exact q3)
          rw [q1] at this
          exact this
  · simp only [VRel] at hx
    refine pure_val (v' := .string (bytesOf 0 0)) (hconv _ ?_) hw hd (by simp only [VRel])
    rw [hx]
    simp [Conv.bytesToString, bytesOf, bytesL]
    rfl

theorem viewAt_row {b : Nat} {c : Array Value} {e : TypeId} {fz : Nat × Nat} (h : w.heap[b]? = some (.cells c e fz)) : (viewAt b).run P w = .ok none w := by
  have : w.shape? b = some (e, c.size) := by simp [World.shape?, h]
  simp [viewAt, this]
theorem seenAt_row {b o : Nat} {c : Array Value} {e : TypeId} {fz : Nat × Nat} (h : w.heap[b]? = some (.cells c e fz)) : (Conv.seenAt ⟨b, o, none⟩).run P w = .ok ⟨b, o, none⟩ w := by
  unfold Conv.seenAt
  simp [viewAt_row h]

theorem ptrSize_spec {t n : Nat} (h : ptrSize P t = some n) : ∃ e, P.underlying t = some (.pointer e) ∧ szOf P e = some n := by
  unfold ptrSize at h
  cases hu : P.underlying t with
  | none => rw [hu] at h; cases h
  | some d =>
    rw [hu] at h
    cases d <;> simp only at h <;> try (cases h; done)
    exact ⟨_, rfl, h⟩
theorem isUnsafe_spec {t : Nat} (h : isUnsafe P t = true) : P.underlying t = some .unsafePointer := by
  unfold isUnsafe at h
  cases hu : P.underlying t with
  | none => rw [hu] at h; cases h
  | some d =>
    rw [hu] at h
    cases d <;> simp only at h <;> first | rfl | cases h

theorem toUnsafe_ok {s t n : Nat} {x : Operand} (ho : o.op = .convert s t x) (h1 : ptrSize P s = some n) (hn : n ≠ 0) (h2 : P.underlying t = some .unsafePointer) {u : CV} (hx : VRel sy ρ u (a.eval x))
    (hd : DRel sy ρ st.dfs a.defers) (hw : WRel sy G B w0 ρ st w) : OpRes sy G B w0 P ρ a o w (toUnsafe u st) := by
  obtain ⟨e, h3, h4⟩ := ptrSize_spec h1
  have hconv : ∀ p, a.eval x = .pointer p → (convert s t (a.eval x)).run P w = (Conv.unsafePointer s t (a.eval x)).run P w := fun p e => by
    rw [e]
    simp only [convert, Sem.run_bind, run_under h3, run_under h2, Result.andThen]
  unfold toUnsafe
  cases u <;> try exact trivial
  · rename_i b of
    simp only
    cases hg : st.heap.get b with
    | none => exact trivial
    | some ob =>
      simp only
      cases ob <;> try exact trivial
      rename_i cells m es fr inf
      simp only
      cases hlt : Nat.blt of m with
      | false => exact trivial
      | true =>
        have hlt' : of < m := by simpa [Nat.blt_eq] using hlt
        obtain ⟨i, c, e', fz, k1, k2, k3, k4, k5, _⟩ := hw.obj b _ hg
        have hx' := hx
        simp only [VRel] at hx
        obtain ⟨i', q1, q2⟩ := hx
        rw [k1] at q1; cases q1
        refine pure_val (v' := a.eval x) ?_ hw hd hx'
        have hsh : w.shape? i.blk = some (e', c.size) := by simp [World.shape?, k4]
        have hge : ¬ c.size ≤ of + i.sh := by omega
        have : (convert s t (a.eval x)).run P w = .ok (a.eval x) w := by
          rw [hconv _ q2, q2]
          simp only [Conv.unsafePointer, Sem.run_bind, run_under h3, run_under h2, Result.andThen, seenAt_row k4, cellsIn]
          simp [hsh, run_size h4, hn, hge]
        simp [execOp, ho, this]
  · have hx' := hx
    simp only [VRel] at hx
    refine pure_val (v' := a.eval x) ?_ hw hd hx'
    have : (convert s t (a.eval x)).run P w = .ok (a.eval x) w := by
      rw [hconv _ hx, hx]
      simp [Conv.unsafePointer, run_under h3, run_under h2]
    simp [execOp, ho, this]

theorem fromUnsafe_ok {s t u0 k : Nat} {x : Operand} (ho : o.op = .convert s t x) (h1 : P.underlying s = some .unsafePointer) (h2 : P.underlying t = some (.pointer u0)) (h3 : szOf P u0 = some k) {u : CV} (hx : VRel sy ρ u (a.eval x))
    (hd : DRel sy ρ st.dfs a.defers) (hw : WRel sy G B w0 ρ st w) : OpRes sy G B w0 P ρ a o w (fromUnsafe P u0 u st) := by
  have hconv : ∀ p, a.eval x = .pointer p → (convert s t (a.eval x)).run P w = (Conv.unsafePointer s t (a.eval x)).run P w := fun p e => by
    rw [e]
    simp only [convert, Sem.run_bind, run_under h1, run_under h2, Result.andThen]
  unfold fromUnsafe
  cases u <;> try exact trivial
  · rename_i b of
    simp only
    cases hg : st.heap.get b with
    | none => exact trivial
    | some ob =>
      simp only
      cases ob <;> try exact trivial
      rename_i cells m es fr inf
      simp only
      cases hty : inf.ty with
      | none => exact trivial
      | some t' =>
        simp only
        cases hc : inf.z && (inf.wh && lies P t' m of u0) with
        | false => exact trivial
        | true =>
          rw [Bool.and_eq_true, Bool.and_eq_true] at hc
          obtain ⟨c1, c2, c3⟩ := hc
          obtain ⟨i, c, e', fz, k1, k2, k3, k4, k5, _⟩ := hw.obj b _ hg
          have z1 := k3.2.1 t' hty
          have z2 := k3.2.2.1 c1
          have z3 := k3.2.2.2.1 c2
          subst z1
          have hx' := hx
          simp only [VRel] at hx
          obtain ⟨i', q1, q2⟩ := hx
          rw [k1] at q1; cases q1
          refine pure_val (v' := a.eval x) ?_ hw hd hx'
          have hsh : w.shape? i.blk = some (e', m) := by simp [World.shape?, k4, z3]
          have hl : liesAt P P.depth e' (m / P.cellsOf e') of u0 1 = true := c3
          have : (convert s t (a.eval x)).run P w = .ok (a.eval x) w := by
            rw [hconv _ q2, q2, z2]
            simp only [Conv.unsafePointer, Sem.run_bind, run_under h1, run_under h2, Result.andThen, seenAt_row k4, variablesAt, run_size h3]
            simp [hsh, hl]
          simp [execOp, ho, this]
  · have hx' := hx
    simp only [VRel] at hx
    refine pure_val (v' := a.eval x) ?_ hw hd hx'
    have : (convert s t (a.eval x)).run P w = .ok (a.eval x) w := by
      rw [hconv _ hx, hx]
      simp [Conv.unsafePointer, run_under h1, run_under h2]
    simp [execOp, ho, this]

theorem convert_ok {s t : TypeId} {x : Operand} (ho : o.op = .convert s t x) (hs : SR sy G cx ρ env loc a) (hd : DRel sy ρ st.dfs a.defers) (hw : WRel sy G B w0 ρ st w) :
    OpRes sy G B w0 P ρ a o w ((oConvert P s t (ev cx x)).f call env loc st) := by
  have hx := evRel hs hw x
  unfold oConvert
  cases h1 : P.underlying s with
  | none => exact trivial
  | some d1 =>
    cases h2 : P.underlying t with
    | none => exact trivial
    | some d2 =>
      simp only
      cases d2 <;> try exact trivial
      · simp only
        generalize (ev cx x).f env loc = u at *
        cases u <;> try exact trivial
        rename_i k' k n
        simp only [VRel] at hx
        simp only
        rw [intV_eq]
        refine pure_val (v' := .int k' (k'.wrap n)) ?_ hw hd (by simp only [VRel])
        simp [execOp, ho, hx, convert, run_under h1, run_under h2, Conv.intToInt]
      · simp only
        cases h3 : elemOfSlice P s with
        | some e =>
          simp only
          cases h4 : isU8 P e with
          | false => exact trivial
          | true => exact strOfBytes_ok ho (elemOfSlice_spec h3) h2 (isU8_spec h4) hx hd hw
        | none =>
          simp only
          generalize (ev cx x).f env loc = u at *
          cases u <;> try exact trivial
          · have hx' := hx
            simp only [VRel] at hx
            exact pure_val (v' := a.eval x) (by simp [execOp, ho, hx, convert, run_under h1, run_under h2]) hw hd hx'
          · have hx' := hx
            simp only [VRel] at hx
            exact pure_val (v' := a.eval x) (by simp [execOp, ho, hx, convert, run_under h1, run_under h2]) hw hd hx'
      · simp only
        cases h3 : ptrSize P s with
        | none => exact trivial
        | some n =>
          simp only
          cases h4 : Nat.beq n 0 with
          | true => exact trivial
          | false => exact toUnsafe_ok ho h3 (fun h => by rw [h] at h4; cases h4) h2 hx hd hw
      · rename_i u0
        simp only
        cases h3 : isUnsafe P s with
        | false => exact trivial
        | true =>
          cases h4 : szOf P u0 with
          | none => exact trivial
          | some k => exact fromUnsafe_ok ho (isUnsafe_spec h3) h2 h4 hx hd hw
      · rename_i e
        simp only
        cases h4 : isU8 P e with
        | false => exact trivial
        | true => exact bytesOfStr_ok ho h1 h2 (isU8_spec h4) hx hd hw

end
end Go.Proofs.YtbmbjaogcmokoaaGreatDoorX
