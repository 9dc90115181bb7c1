/- Operations: what the executor says of one, the model does (3: places, integers, strings). -/
import Derived.Test.YtbmbjaogcmokoaaGreatDoorXFill
import Derived.Test.YtbmbjaogcmokoaaGreatDoorXStr
namespace Go.Proofs.YtbmbjaogcmokoaaGreatDoorX
open Go Go.RowKit
set_option linter.unusedVariables false

section
variable {sy : Sy} {G : Nat} {B : Kp} {w0 : World} {P : Program} {ρ ρ' : Ren} {cx : Cx} {env : List CV} {loc : Loc} {a : Act} {st st' : St} {w w' : World} {o : Oper} {call : Caller}

theorem repL_length (z : List CV) : ∀ n, (repL z n).length = n * z.length
  | 0 => by rw [Nat.zero_mul]; rfl
  | n + 1 => by
    show (z ++ repL z n).length = _
    rw [List.length_append, repL_length z n, Nat.add_mul]; omega
theorem repL_get (z : List CV) : ∀ (n j : Nat), j < n * z.length → (repL z n)[j]? = z[j % z.length]?
  | 0, j, h => by omega
  | n + 1, j, h => by
    show (z ++ repL z n)[j]? = _
    by_cases hj : j < z.length
    · rw [List.getElem?_append_left hj, Nat.mod_eq_of_lt hj]
    · rw [List.getElem?_append_right (by omega), repL_get z n _ (by rw [Nat.add_mul] at h; omega)]
      congr 1
      conv => rhs; rw [show j = (j - z.length) + z.length by omega, Nat.add_mod_right]
theorem repL_rel {z : List CV} {v : Array Value} (h : VRels sy ρ z v.toList) (n : Nat) : VRels sy ρ (repL z n) ((Array.range (n * z.length)).map (fun j => v[j % v.size]!)).toList := by
  have hl : v.size = z.length := by rw [← Array.length_toList]; exact h.length
  refine VRels.of_get (by simp [repL_length]) fun j x x' hx hx' => ?_
  have hlt : j < n * z.length := by
    rcases Nat.lt_or_ge j (n * z.length) with q | q
    · exact q
    · rw [List.getElem?_eq_none (by rw [repL_length]; exact q)] at hx; cases hx
  rw [repL_get z n j hlt] at hx
  obtain ⟨u, q1, q2⟩ := h.get _ _ hx
  have hpos : 0 < z.length := by rcases Nat.eq_zero_or_pos z.length with e | e; · rw [e] at hlt; omega
                                 · exact e
  have hm : j % v.size < v.size := by rw [hl]; exact Nat.mod_lt _ hpos
  have hu : v[j % v.size]! = u := by
    rw [Array.getElem?_toList] at q1
    rw [getElem!_pos v (j % v.size) hm]
    rw [← hl, Array.getElem?_eq_getElem hm] at q1
    exact Option.some.inj q1
  rw [Array.getElem?_toList] at hx'
  simp [hlt] at hx'
  rw [← hx', hu]
  exact q2

theorem elemOfSlice_spec {t e : Nat} (h : elemOfSlice P t = some e) : P.underlying t = some (.slice e) := by
  unfold elemOfSlice at h
  split at h
  · rename_i q; cases h; exact q
  · cases h

theorem run_buildSlice {t e n es : Nat} {v : Value} {parts : Array (Nat × Value)} {vs' : Array Value} (hu : P.underlying t = some (.slice e)) (hes : szOf P e = some es)
    (z1 : (zeroValue e).run P w = .ok v w) (hle : n * es ≤ 16777216) (key : Instr.fill (fun i => some (i * es, es)) ((Array.range (n * es)).map fun j => v.cells[j % v.cells.size]!) parts.toList = some vs') :
    (Instr.buildSlice t n parts).run P w = .ok (.slice (some ⟨w.heap.size, 0, none⟩) n n) (w.alloc (.cells vs' e)) := by
  simp only [Instr.buildSlice, Sem.run_bind, run_under hu, Result.andThen, run_size hes]
  generalize hm : n * es = m at hle key ⊢
  rw [if_neg (by simp; omega)]
  by_cases h0 : m = 0
  · subst h0
    have em : ∀ f : Nat → Value, (Array.range 0).map f = #[] := fun f => Array.eq_empty_of_size_eq_zero (by simp)
    rw [em] at key
    simp only [if_true, Sem.run_bind, Sem.run_pure, Result.andThen, em, key, run_newRow]
  · simp [h0, z1, key, run_newRow]

theorem buildSlice_ok {t n : Nat} {parts : Array (Nat × Operand)} (ho : o.op = .buildSlice t n parts) (hs : SR sy G cx ρ env loc a) (hd : DRel sy ρ st.dfs a.defers) (hw : WRel sy G B w0 ρ st w) :
    OpRes sy G B w0 P ρ a o w ((oBuildSlice P cx t n parts.toList).f call env loc st) := by
  unfold oBuildSlice
  cases he : elemOfSlice P t with
  | none => exact trivial
  | some e =>
    have hu := elemOfSlice_spec he
    cases hes : szOf P e with
    | none => simp only [hes]; exact trivial
    | some es =>
      cases hz : zeroOf P e with
      | none => simp only [hes, hz]; exact trivial
      | some z =>
        simp only [hes, hz]
        cases hc : (Nat.ble (Nat.mul n es) 16777216 && Nat.beq (len (cellsOf z)) es) with
        | false => exact trivial
        | true =>
          simp only [Bool.and_eq_true, Nat.beq_eq, len_eq] at hc
          have hc1 : n * es ≤ 16777216 := by have := hc.1; simpa [Nat.ble_eq] using this
          obtain ⟨v, z1, z2, z3, _⟩ := run_zero (sy := sy) hz w ρ
          simp only [cond_true]
          unfold buildSliceF
          simp only
          have hcs := cellsOf_rel z3 z2
          have hrep := repL_rel hcs n
          generalize hr : (fillF (fun i => some (Nat.mul i es, es)) cx parts.toList (len (repL (cellsOf z) n))).f (repL (cellsOf z) n) env loc (fun l => newRow l es ⟨none, true, false, true⟩ st fun b st => RV.ok (.slice b 0 n n false) st) = r
          rcases fill_rel hs hw parts.toList _ _ _ (len_eq _).symm hrep hr with ⟨k, rfl⟩ | ⟨cs', vs', rfl, h2, h3, h4⟩
          · exact trivial
          · refine newRow_ok h3 hw (arr := vs') (elem := e) rfl (fun _ h => by cases h) fun st1 hd1 hle hsame hw1 => ?_
            refine ok_val (v' := .slice (some ⟨w.heap.size, 0, none⟩) n n) (w' := w.alloc (.cells vs' e)) ?_ hle (by simp only [VRel]; exact ⟨_, hsame, by simp⟩) hw1 (by rw [hd1]; exact hd)
            have hzz : v.cells.size = es := by rw [← Array.length_toList, hcs.length]; exact hc.2
            have key : Instr.fill (fun i => some (i * es, es)) ((Array.range (n * es)).map fun j => v.cells[j % v.cells.size]!) (parts.map fun p => (p.1, a.eval p.2)).toList = some vs' := by
              rw [hc.2] at h4
              simpa using h4
            simp only [execOp, ho, Sem.run_bind, run_buildSlice hu hes z1 hc1 key, Result.andThen, Sem.run_pure]

theorem offOf_spec {t f d : Nat} (h : offOf P t f = some d) : ∃ (fs : Array Field) (x : Field) (i : TypeInfo), P.underlying t = some (.struct fs) ∧ fs[f]? = some x ∧ P.info? x.type = some i ∧ i.size ≠ 0 ∧ d = x.offset := by
  unfold offOf at h
  split at h
  · rename_i fs hu
    split at h
    · rename_i x hx
      split at h
      · rename_i i hi
        cases hb : Nat.beq i.size 0 with
        | true => rw [hb] at h; cases h
        | false =>
          rw [hb] at h
          cases h
          exact ⟨fs, x, i, hu, hx, hi, (fun e => by rw [e] at hb; cases hb), rfl⟩
      · cases h
    · cases h
  · cases h

theorem fieldAddr_ok {t f : Nat} {x : Operand} (ho : o.op = .fieldAddr t x f) (hs : SR sy G cx ρ env loc a) (hd : DRel sy ρ st.dfs a.defers) (hw : WRel sy G B w0 ρ st w) :
    OpRes sy G B w0 P ρ a o w ((oFieldAddr (offOf P t f) (ev cx x)).f call env loc st) := by
  unfold oFieldAddr
  cases hof : offOf P t f with
  | none => exact trivial
  | some d =>
    obtain ⟨fs, fl, i, h1, h2, h3, h4, rfl⟩ := offOf_spec hof
    have hx := evRel hs hw x
    simp only
    generalize (ev cx x).f env loc = v at *
    cases v <;> try exact trivial
    rename_i b ofs
    simp only [VRel] at hx
    obtain ⟨bi, hb, e⟩ := hx
    simp only [forceN_eq]
    refine pure_val (v' := .pointer (some ⟨bi.blk, ofs + fl.offset + bi.sh, none⟩)) ?_ hw hd (by simp only [VRel]; exact ⟨bi, hb, rfl⟩)
    have hsz : (sizeOf fl.type).run P w = .ok i.size w := by simp [sizeOf, run_info h3]
    simp only [execOp, ho, Instr.fieldAt, Sem.run_bind, run_under h1, Result.andThen, h2, e, Instr.sureAddr, fieldPlace, hsz, Sem.run_pure]
    rw [if_neg h4]
    simp [addr_add]

theorem asIntOf_int (k : IntKind) (n : Int) (w : World) : (asIntOf (.int k n)).run P w = .ok (k, n) w := rfl

theorem ixAddr_ok {es b ofs len : Nat} {v : CV} {x : Operand} {t : Nat} {xi : Operand} {u u' : Value} {bi : BI} (ho : o.op = .indexAddr t x xi) (hd : DRel sy ρ st.dfs a.defers) (hw : WRel sy G B w0 ρ st w)
    (hv : VRel sy ρ v (a.eval xi)) (hb : ρ b = some bi)
    (hrun : ∀ (k : IntKind) (n : Nat), a.eval xi = .int k n → n < len → (Instr.indexAt t (a.eval x) (a.eval xi)).run P w = .ok (.pointer (some ((⟨bi.blk, ofs + bi.sh, none⟩ : Addr).add (n * es)))) w) :
    OpRes sy G B w0 P ρ a o w (ixAddr es b ofs len v st) := by
  unfold ixAddr
  cases v <;> try exact trivial
  rename_i k n
  simp only [VRel] at hv
  cases n with
  | negSucc m => exact trivial
  | ofNat n =>
    simp only
    cases hc : Nat.blt n len with
    | false => exact trivial
    | true =>
      have hlt : n < len := by simpa [Nat.blt_eq] using hc
      simp only [cond_true, forceN_eq]
      refine pure_val (v' := .pointer (some ⟨bi.blk, ofs + n * es + bi.sh, none⟩)) ?_ hw hd (by simp only [VRel]; exact ⟨bi, hb, rfl⟩)
      have := hrun k n hv hlt
      simp only [execOp, ho, Sem.run_bind, this, Result.andThen, Sem.run_pure, addr_add]
      rw [show ofs + bi.sh + n * es = ofs + n * es + bi.sh by omega]

theorem indexAddr_ok {t : Nat} {x xi : Operand} (ho : o.op = .indexAddr t x xi) (hs : SR sy G cx ρ env loc a) (hd : DRel sy ρ st.dfs a.defers) (hw : WRel sy G B w0 ρ st w) :
    OpRes sy G B w0 P ρ a o w ((oIndexAddr P t (ev cx x) (ev cx xi)).f call env loc st) := by
  have hx := evRel hs hw x
  have hi := evRel hs hw xi
  unfold oIndexAddr
  cases hu : P.underlying t with
  | none => exact trivial
  | some d =>
    simp only
    cases d <;> try exact trivial
    · rename_i e
      cases hes : szOf P e with
      | none => simp only [hes]; exact trivial
      | some es =>
        simp only [hes]
        generalize (ev cx x).f env loc = v at *
        cases v <;> try exact trivial
        rename_i b ofs l c q
        simp only [VRel] at hx
        obtain ⟨bi, hb, eq⟩ := hx
        refine ixAddr_ok ho hd hw hi hb (u := undef) (u' := undef) fun k n hn hlt => ?_
        rw [hn, eq]
        simp [Instr.indexAt, asIntOf, run_under hu, run_size hes, hlt]
    · rename_i m e
      cases hes : szOf P e with
      | none => simp only [hes]; exact trivial
      | some es =>
        simp only [hes]
        generalize (ev cx x).f env loc = v at *
        cases v <;> try exact trivial
        rename_i b ofs
        simp only [VRel] at hx
        obtain ⟨bi, hb, eq⟩ := hx
        refine ixAddr_ok ho hd hw hi hb (u := undef) (u' := undef) fun k n hn hlt => ?_
        rw [hn, eq]
        simp [Instr.indexAt, asIntOf, run_under hu, run_size hes, Instr.sureAddr, hlt]

theorem index_ok {t : Nat} {x xi : Operand} (ho : o.op = .index t x xi) (hs : SR sy G cx ρ env loc a) (hd : DRel sy ρ st.dfs a.defers) (hw : WRel sy G B w0 ρ st w) :
    OpRes sy G B w0 P ρ a o w ((oIndex P t (ev cx x) (ev cx xi)).f call env loc st) := by
  have hx := evRel hs hw x
  have hi := evRel hs hw xi
  unfold oIndex
  cases hu : P.underlying t with
  | none => exact trivial
  | some d =>
    simp only
    cases d <;> try exact trivial
    simp only
    generalize (ev cx x).f env loc = v at *
    cases v <;> try exact trivial
    rename_i l n
    simp only
    generalize (ev cx xi).f env loc = u at *
    cases u <;> try exact trivial
    rename_i k m
    cases m with
    | negSucc m => exact trivial
    | ofNat m =>
      simp only [VRel] at hx hi
      simp only
      cases hc : Nat.blt m l with
      | false => exact trivial
      | true =>
        have hlt : m < l := by simpa [Nat.blt_eq] using hc
        simp only [cond_true, forceN_eq]
        refine pure_val (v' := .int .u8 (Int.ofNat (byteAt n m))) ?_ hw hd (by simp only [VRel])
        rw [← byteAt_eq]
        simp [execOp, ho, Instr.index, hx, hi, asIntOf, run_under hu, bytesOf_get hlt]
end
end Go.Proofs.YtbmbjaogcmokoaaGreatDoorX
