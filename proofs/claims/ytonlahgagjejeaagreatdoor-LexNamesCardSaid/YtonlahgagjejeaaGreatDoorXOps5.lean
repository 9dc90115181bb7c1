/- Operations: what the executor says of one, the model does (5). -/
import Derived.Test.YtonlahgagjejeaaGreatDoorXOps4
import Derived.Laws.RangeString
namespace Go.Proofs.YtonlahgagjejeaaGreatDoorX
open Go Go.RowKit
set_option linter.unusedVariables false

section
variable {sy : Nat → ByteArray} {G B : Nat} {w0 : World} {P : Program} {ρ ρ' : Ren} {cx : Cx} {env : List CV} {loc : Loc} {a : Act} {st st' : St} {w w' : World} {o : Oper} {call : Caller}

theorem unOp_ok {t : TypeId} {op : UnOp} {x : Operand} (ho : o.op = .unOp op t x) (hs : SR sy G cx ρ env loc a) (hd : DRel sy ρ st.dfs a.defers) (hw : WRel sy G B w0 ρ st w) :
    OpRes sy G B w0 P ρ a o w ((oUnOp op (ev cx x)).f call env loc st) := by
  have hx := evRel hs hw x
  unfold oUnOp
  cases op <;> try exact trivial
  · simp only
    generalize (ev cx x).f env loc = u at *
    cases u <;> try exact trivial
    rename_i k n
    simp only [VRel] at hx
    simp only
    rw [intV_eq]
    refine pure_val (v' := .int k (k.wrap (Int.sub 0 n))) ?_ hw hd (by simp only [VRel])
    simp [execOp, ho, hx, Op.unary, Op.intArith]
    exact congrArg _ (Int.zero_sub n).symm
  · simp only
    generalize (ev cx x).f env loc = u at *
    cases u <;> try exact trivial
    rename_i b
    simp only [VRel] at hx
    exact pure_val (v' := .bool (!b)) (by simp [execOp, ho, hx, Op.unary]) hw hd (by simp only [VRel])

theorem extract_ok {i : Nat} {x : Operand} (ho : o.op = .extract x i) (hs : SR sy G cx ρ env loc a) (hd : DRel sy ρ st.dfs a.defers) (hw : WRel sy G B w0 ρ st w) :
    OpRes sy G B w0 P ρ a o w ((oExtract (ev cx x) i).f call env loc st) := by
  have hx := evRel hs hw x
  unfold oExtract
  simp only
  generalize (ev cx x).f env loc = u at *
  cases u <;> try exact trivial
  rename_i l
  simp only [VRel] at hx
  obtain ⟨l', e, hl⟩ := hx
  simp only
  cases hi : l[i]? with
  | none => exact trivial
  | some v =>
    obtain ⟨v', h1, h2⟩ := hl.get _ _ hi
    exact pure_val (v' := v') (by simp [execOp, ho, e, Instr.extract, h1]) hw hd h2

theorem newObj_ok {ob : Obj} {O : Go.Obj} {bi : BI} {K : Nat → St → RV} (hw : WRel sy G B w0 ρ st w) (hbi : bi.blk = w.heap.size)
    (hnew : ORel sy B (ρ.put st.next bi) (w.alloc O) st.next ob)
    (hK : ∀ st1, st1.dfs = st.dfs → ρ.le (ρ.put st.next bi) → (ρ.put st.next bi) st.next = some bi → WRel sy G B w0 (ρ.put st.next bi) st1 (w.alloc O) → OpRes sy G B w0 P ρ a o w (K st.next st1)) :
    OpRes sy G B w0 P ρ a o w (newObj ob st K) := by
  obtain ⟨h, n, d⟩ := st
  rw [newObj_eq]
  exact hK ⟨_, n + 1, d⟩ rfl (Ren.le_put hw.fresh) (Ren.put_same _ _ _) (hw.new hbi hnew)

theorem range_ok {t : TypeId} {x : Operand} (ho : o.op = .range t x) (hs : SR sy G cx ρ env loc a) (hd : DRel sy ρ st.dfs a.defers) (hw : WRel sy G B w0 ρ st w) :
    OpRes sy G B w0 P ρ a o w ((oRange P t (ev cx x)).f call env loc st) := by
  have hx := evRel hs hw x
  unfold oRange
  cases hu : P.underlying t with
  | none => exact trivial
  | some d =>
    simp only
    cases d <;> try exact trivial
    simp only
    generalize (ev cx x).f env loc = u at *
    cases u <;> try exact trivial
    rename_i l n
    simp only [VRel] at hx
    simp only [strOf]
    refine newObj_ok (O := .stringIter (bytesOf l n) 0) (bi := ⟨w.heap.size, 0, 0, 0⟩) hw rfl ⟨_, Ren.put_same _ _ _, hw.base, rfl, alloc_heap _ _⟩ fun st1 hd1 hle hsame hw1 => ?_
    refine ok_val (v' := .pointer (some ⟨w.heap.size, 0, none⟩)) (w' := w.alloc (.stringIter (bytesOf l n) 0)) ?_ hle (by simp only [VRel]; exact ⟨_, hsame, by simp⟩) hw1 (by rw [hd1]; exact hd)
    simp [execOp, ho, hx, Instr.range, run_under hu]

theorem run_getObj {b : Nat} {O : Go.Obj} (h : w.heap[b]? = some O) (hc : ∀ c e f, O ≠ .cells c e f) : (getObj b).run P w = .ok O w := by
  cases O <;> first | exact absurd rfl (hc _ _ _) | simp [getObj, Sem.run, h]
theorem run_setObj {b : Nat} {O O' : Go.Obj} (h : w.heap[b]? = some O) (hc : ∀ c e f, O ≠ .cells c e f) : (Go.setObj b O').run P w = .ok () { w with heap := w.heap.setIfInBounds b O' } := by
  cases O <;> first | exact absurd rfl (hc _ _ _) | simp [Go.setObj, Sem.run, h]
theorem setObj_below {b : Nat} {O' : Go.Obj} (hB : B ≤ b) : Below B w { w with heap := w.heap.setIfInBounds b O' } :=
  ⟨rfl, rfl, rfl, by simp, fun k hk => by simp [Array.getElem?_setIfInBounds]; omega⟩
theorem setObj_ne {b k : Nat} {O' : Go.Obj} (hk : k ≠ b) : ({ w with heap := w.heap.setIfInBounds b O' } : World).heap[k]? = w.heap[k]? := by
  simp [Ne.symm hk]
theorem setObj_same {b : Nat} {O' : Go.Obj} (hb : b < w.heap.size) : ({ w with heap := w.heap.setIfInBounds b O' } : World).heap[b]? = some O' := by
  simp [hb]

theorem next_ok {x : Operand} {s : Bool} (ho : o.op = .next x s) (hs : SR sy G cx ρ env loc a) (hd : DRel sy ρ st.dfs a.defers) (hw : WRel sy G B w0 ρ st w) :
    OpRes sy G B w0 P ρ a o w ((oNext (ev cx x) s).f call env loc st) := by
  have hx := evRel hs hw x
  unfold oNext
  cases s with
  | false => exact trivial
  | true =>
    simp only
    generalize (ev cx x).f env loc = u at *
    cases u <;> try exact trivial
    rename_i b ofs
    simp only [VRel] at hx
    obtain ⟨i, hi, e⟩ := hx
    simp only
    cases hz : Nat.beq ofs 0 with
    | false => exact trivial
    | true =>
      have hz' : ofs = 0 := Nat.eq_of_beq_eq_true hz
      subst hz'
      simp only
      cases hg : st.heap.get b with
      | none => exact trivial
      | some ob =>
        simp only
        cases ob <;> try exact trivial
        rename_i l n p
        obtain ⟨i', h1, h2, h3, h4⟩ := hw.obj b _ hg
        rw [hi] at h1; cases h1
        have hblk : i.blk < w.heap.size := (Array.getElem?_eq_some_iff.1 h4).1
        have e' : a.eval x = .pointer (some ⟨i.blk, 0, none⟩) := by rw [e, h3]
        simp only [nextStr]
        cases hp : Nat.blt p l with
        | false =>
          have hge : ¬ p < l := fun h => by
            have h2 : Nat.blt p l = true := by simpa [Nat.blt_eq] using h
            rw [h2] at hp; cases hp
          simp only [cond_false]
          refine pure_val (v' := .tuple #[.bool false]) ?_ hw hd (by simp only [VRel]; exact ⟨[.bool false], by simp, VRels.cons (by simp only [VRel]) VRels.nil⟩)
          simp [execOp, ho, e', Instr.next, run_getObj h4 (by simp), bytesOf_size, hge]
        | true =>
          have hlt : p < l := by simpa [Nat.blt_eq] using hp
          simp only [cond_true, forceN_eq]
          cases hc : Nat.blt (byteAt n p) 128 with
          | false => exact trivial
          | true =>
            have hc' : byteAt n p < 128 := by simpa [Nat.blt_eq] using hc
            obtain ⟨hp0, nx, d0⟩ := st
            simp only [cond_true, setObj_eq]
            have hsz : p < (bytesOf l n).size := by rw [bytesOf_size]; exact hlt
            have hb : ((bytesOf l n)[p]'hsz).toNat = byteAt n p := by
              have h := bytesOf_get (l := l) (n := n) hlt
              rw [getElem?_pos (bytesOf l n) p hsz] at h
              have h' := Option.some.inj h
              rw [h']
              have := byteAt_eq n p
              exact Int.ofNat_inj.1 this
            have hdec : Utf8.decode (bytesOf l n) p = (byteAt n p, 1) := by
              rw [decode_ascii (bytesOf l n) p hsz (by rw [hb]; exact hc'), hb]
            have hw1 : WRel sy G B w0 ρ ⟨T.set hp0 (.siter l n (Nat.succ p)) b, nx, d0⟩ { w with heap := w.heap.setIfInBounds i.blk (.stringIter (bytesOf l n) (p + 1)) } :=
              hw.update hg rfl hi h2 (setObj_below h2) (fun k hk => setObj_ne hk) ⟨i, hi, h2, h3, setObj_same hblk⟩
            refine ok_val (v' := .tuple #[.bool true, .int .i64 p, .int .i32 (byteAt n p)]) ?_ (Ren.le_refl _) ?_ hw1 hd
            · simp [execOp, ho, e', Instr.next, run_getObj h4 (by simp), bytesOf_size, hlt, hdec, run_setObj h4 (by simp), goInt]
            · simp only [VRel]
              exact ⟨[.bool true, .int .i64 p, .int .i32 (byteAt n p)], by simp, VRels.cons (by simp only [VRel]) (VRels.cons (by simp only [VRel]; rfl) (VRels.cons (by simp only [VRel]; rfl) VRels.nil))⟩
end
end Go.Proofs.YtonlahgagjejeaaGreatDoorX
