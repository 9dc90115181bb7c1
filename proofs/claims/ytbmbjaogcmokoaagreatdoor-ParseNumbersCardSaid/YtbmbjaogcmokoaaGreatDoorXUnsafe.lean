/- Operations: what strings.Builder does with its bytes. -/
import Derived.Test.YtbmbjaogcmokoaaGreatDoorXMap
import Derived.Lib.UnsafeStr
namespace Go.Proofs.YtbmbjaogcmokoaaGreatDoorX
open Go Go.RowKit
set_option linter.unusedVariables false

section
variable {sy : Sy} {G : Nat} {B : Kp} {w0 : World} {P : Program} {ρ ρ' : Ren} {cx : Cx} {env : List CV} {loc : Loc} {a : Act} {st st' : St} {w w' : World} {o : Oper} {call : Caller}

theorem sliceData_ok {c : Call} {x : Operand} (ho : o.op = .call c) (hc : c.callee = .builtin .unsafeSliceData) (ha : c.args.toList = [x]) (hs : SR sy G cx ρ env loc a) (hd : DRel sy ρ st.dfs a.defers) (hw : WRel sy G B w0 ρ st w) :
    OpRes sy G B w0 P ρ a o w (sliceData ((ev cx x).f env loc) st) := by
  have hx := evRel hs hw x
  have ha' : c.args = #[x] := Array.toList_inj.1 (by simpa using ha)
  have hrun : (execOp a.eval o).run P w = ((Builtin.unsafeSliceData_ c.argTypes o.type #[a.eval x]).run P w).andThen fun v w => .ok (.value v) w := by
    rw [builtin_call (s := do pure (.value (← Builtin.unsafeSliceData_ c.argTypes o.type #[a.eval x]))) ho hc (fun _ => by rw [ha']; simp [builtin])]
    simp
  unfold sliceData
  generalize (ev cx x).f env loc = u at *
  cases u <;> try exact trivial
  · rename_i b ofs l cp q
    simp only
    cases hz : Nat.beq cp 0 with
    | true => exact trivial
    | false =>
      simp only [VRel] at hx
      obtain ⟨i, hi, e⟩ := hx
      have hcp : cp ≠ 0 := fun h => by rw [h] at hz; cases hz
      have hcap : (if q = true then cp + i.ext else cp) ≠ 0 := by
        cases q <;> simp <;> omega
      refine pure_val (v' := .pointer (some ⟨i.blk, ofs + i.sh, none⟩)) ?_ hw hd (by simp only [VRel]; exact ⟨i, hi, rfl⟩)
      rw [hrun, e, Lib.run_unsafeSliceData_row w _ _ _ _ _ hcap]
      rfl
  · simp only [VRel] at hx
    refine pure_val (v' := .pointer none) ?_ hw hd (by simp only [VRel])
    rw [hrun, hx, Lib.run_unsafeSliceData_nil]
    rfl

theorem bytePtr_spec {t e : Nat} (h : bytePtr P t = some e) : P.underlying t = some (.pointer e) ∧ P.cellsOf e = 1 := by
  unfold bytePtr at h
  cases hu : P.underlying t with
  | none => rw [hu] at h; cases h
  | some d =>
    rw [hu] at h
    cases d <;> simp only at h <;> try (cases h; done)
    rename_i e'
    cases hb : isU8 P e' && Nat.beq (P.cellsOf e') 1 with
    | false => rw [hb] at h; cases h
    | true =>
      rw [hb] at h
      cases h
      rw [Bool.and_eq_true] at hb
      exact ⟨rfl, Nat.eq_of_beq_eq_true hb.2⟩

theorem freeze_heap {b n : Nat} {c : Array Value} {e : TypeId} {fz : Nat × Nat} (h : w.heap[b]? = some (.cells c e fz)) (hn : n ≠ 0) :
    w.freeze ⟨b, 0, none⟩ n = { w with heap := w.heap.setIfInBounds b (.cells c e (if fz.1 == fz.2 then (0, n) else (0, max fz.2 n))) } := by
  unfold World.freeze
  rw [if_neg hn]
  congr 1
  apply Array.ext_getElem?
  intro j
  have hb := (Array.getElem?_eq_some_iff.1 h).1
  rw [Array.getElem?_modify, Array.getElem?_setIfInBounds]
  by_cases hj : b = j
  · subst hj
    simp only [if_true, h, Option.map_some, hb]
    obtain ⟨lo, hi⟩ := fz
    simp
  · simp [hj]

theorem unsafeStr_ok {c : Call} {x y : Operand} {t t2 e : Nat} (ho : o.op = .call c) (hc : c.callee = .builtin .unsafeString) (ha : c.args.toList = [x, y]) (ht : c.argTypes.toList = [t, t2]) (he : bytePtr P t = some e)
    (hs : SR sy G cx ρ env loc a) (hd : DRel sy ρ st.dfs a.defers) (hw : WRel sy G B w0 ρ st w) :
    OpRes sy G B w0 P ρ a o w (unsafeStr e ((ev cx x).f env loc) ((ev cx y).f env loc) st) := by
  have hx := evRel hs hw x
  have hy := evRel hs hw y
  obtain ⟨hp, hc1⟩ := bytePtr_spec he
  have ha' : c.args = #[x, y] := Array.toList_inj.1 (by simpa using ha)
  have ht' : c.argTypes = #[t, t2] := Array.toList_inj.1 (by simpa using ht)
  have hrun : (execOp a.eval o).run P w = ((Builtin.unsafeString_ #[t, t2] o.type #[a.eval x, a.eval y]).run P w).andThen fun v w => .ok (.value v) w := by
    rw [builtin_call (s := do pure (.value (← Builtin.unsafeString_ #[t, t2] o.type #[a.eval x, a.eval y]))) ho hc (fun _ => by rw [ha', ht']; simp [builtin])]
    simp
  unfold unsafeStr
  generalize (ev cx x).f env loc = u at *
  generalize (ev cx y).f env loc = v at *
  cases v <;> try exact trivial
  rename_i k z
  cases z with
  | negSucc m => exact trivial
  | ofNat n =>
    cases k <;> try exact trivial
    simp only
    simp only [VRel] at hy
    cases hz : Nat.beq n 0 with
    | true =>
      have hn : n = 0 := Nat.eq_of_beq_eq_true hz
      subst hn
      have hy' : a.eval y = .int .i64 0 := hy
      have none : ∀ p, a.eval x = .pointer p → (execOp a.eval o).run P w = .ok (.value (.string (bytesOf 0 0))) w := fun p hpx => by
        rw [hrun, hpx, hy', Lib.run_unsafeString_none]
        rfl
      simp only [cond_true]
      cases u <;> try exact trivial
      · simp only [VRel] at hx
        obtain ⟨i, _, e'⟩ := hx
        exact pure_val (none _ e') hw hd (by simp only [VRel])
      · simp only [VRel] at hx
        exact pure_val (none _ hx) hw hd (by simp only [VRel])
    | false =>
      have hn : n ≠ 0 := fun h => by rw [h] at hz; cases hz
      simp only [cond_false]
      unfold strAt
      cases u <;> try exact trivial
      rename_i b ofs
      simp only
      cases hg : st.heap.get b with
      | none => exact trivial
      | some ob =>
        simp only
        cases ob <;> try exact trivial
        rename_i cells m es fr inf
        simp only
        cases hty : inf.ty with
        | none => exact trivial
        | some t' =>
          simp only
          cases hcd : Nat.beq t' e && (Nat.beq ofs 0 && (inf.z && (inf.low && (Nat.ble n m && Nat.ble n 4294967296)))) with
          | false => exact trivial
          | true =>
            simp only [Bool.and_eq_true, Nat.beq_eq, Nat.ble_eq] at hcd
            obtain ⟨d1, d2, d3, d4, d5, d6⟩ := hcd
            simp only [cond_true]
            cases hl : loadN cells n 0 with
            | none => exact trivial
            | some cs =>
              obtain ⟨i, c0, e0, fz, k1, k2, k3, k4, k5, k6, k7⟩ := hw.obj b _ hg
              have z1 := k3.2.1 t' hty
              have z2 := k3.2.2.1 d3
              have z4 := k3.2.2.2.2 d4
              have d1' : t' = e := by simpa using d1
              have d2' : ofs = 0 := by simpa using d2
              subst d1'
              subst d2'
              subst z1
              simp only [VRel] at hx
              obtain ⟨i', q1, q2⟩ := hx
              rw [k1] at q1; cases q1
              obtain ⟨l', p1, p2, p3⟩ := loadN_rel (fun j v hj => (k6 j v hj).2) hl
              simp only
              generalize hr : packC cs _ = r
              rcases packC_rel cs l' _ _ p2 hr with ⟨k, rfl⟩ | ⟨s, hr2, hv⟩
              · exact trivial
              · rw [← hr2, forceN_eq]
                obtain ⟨hp0, nx, d0⟩ := st
                rw [setObj_eq]
                have hcl : cs.length = n := by rw [← p2.length]; exact p1
                rw [hcl] at hv
                have hblk : i.blk < w.heap.size := (Array.getElem?_eq_some_iff.1 k4).1
                have hsz : c0.size ≥ n := by
                  have := k5
                  omega
                have hfr : (bif Nat.ble fr n then n else fr) = max fr n := by
                  cases hb : Nat.ble fr n with
                  | true =>
                    have : fr ≤ n := by simpa [Nat.ble_eq] using hb
                    simp; omega
                  | false =>
                    have : ¬ fr ≤ n := fun h => by
                      have h2 : Nat.ble fr n = true := by simpa [Nat.ble_eq] using h
                      rw [h2] at hb; cases hb
                    simp; omega
                rw [hfr]
                have hfre := freeze_heap (w := w) k4 hn
                have hlow : (if (fz.1 == fz.2) = true then (0, n) else (0, max fz.2 n)).2 ≤ max fr n := by
                  by_cases hq : fz.1 = fz.2
                  · simp [hq]; omega
                  · have hq' : (fz.1 == fz.2) = false := by simpa using hq
                    rw [hq']
                    simp only [Bool.false_eq_true, if_false]
                    rcases z4 with h | h
                    · exact absurd h hq
                    · omega
                have hw1 : WRel sy G B w0 ρ ⟨T.set hp0 (.row cells m es (max fr n) inf) b, nx, d0⟩ (w.freeze ⟨i.blk, 0, none⟩ n) := by
                  rw [hfre]
                  refine hw.update hg rfl k1 k2 (setObj_below k2) (fun k hk => setObj_ne hk) ⟨i, c0, e0, _, k1, k2, ⟨k3.1, k3.2.1, k3.2.2.1, k3.2.2.2.1, fun _ => .inr ?_⟩, setObj_same hblk, k5, k6, fun j hj1 hj2 => ?_⟩
                  · rw [z2, Nat.add_zero]; exact hlow
                  · rw [z2, Nat.add_zero]
                    intro hh
                    have := hh.2
                    have := hlow
                    omega
                refine ok_val (v' := .string (bytesOf n s)) ?_ (Ren.le_refl _) (by simp only [VRel]) hw1 hd
                have hlen : (bytesL n s).length = n := bytesL_length n s
                have hus := Lib.run_unsafeString_row (P := P) w t t2 o.type e0 hp hc1 i.blk c0.size (by simp [World.shape?, k4]) (bytesL n s) (fun h => by rw [h] at hlen; exact hn hlen.symm) (by rw [hlen]; exact hsz) (by rw [hlen]; omega)
                  (fun j x hj => by
                    have hjn : j < n := by
                      have := (List.getElem?_eq_some_iff.1 hj).1
                      rw [hlen] at this; exact this
                    have h1 := p3 j hjn
                    rw [hv, List.getElem?_map, hj] at h1
                    rw [addr_add, cell_row k4]
                    rw [z2] at h1
                    simpa using h1)
                rw [hlen] at hus
                rw [hrun, q2, hy]
                have e1 : (⟨i.blk, 0 + i.sh, none⟩ : Addr) = ⟨i.blk, 0, none⟩ := by rw [z2]
                rw [e1]
                have e2 : (Value.int .i64 (Int.ofNat n)) = .int .i64 (n : Int) := rfl
                rw [e2, hus]
                rfl
end
end Go.Proofs.YtbmbjaogcmokoaaGreatDoorX
