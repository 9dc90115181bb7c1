/- Operations: what the executor says of one, the model does (5). -/
import Derived.Test.YtbmbjaogcmokoaaGreatDoorXOps4
import Derived.Laws.RangeString
namespace Go.Proofs.YtbmbjaogcmokoaaGreatDoorX
open Go Go.RowKit
set_option linter.unusedVariables false

section
variable {sy : Sy} {G : Nat} {B : Kp} {w0 : World} {P : Program} {ρ ρ' : Ren} {cx : Cx} {env : List CV} {loc : Loc} {a : Act} {st st' : St} {w w' : World} {o : Oper} {call : Caller}

theorem unOp_ok {t : TypeId} {op : UnOp} {x : Operand} (ho : o.op = .unOp op t x) (hs : SR sy G cx ρ env loc a) (hd : DRel sy ρ st.dfs a.defers) (hw : WRel sy G B w0 ρ st w) :
    OpRes sy G B w0 P ρ a o w ((oUnOp op (ev cx x)).f call env loc st) := by
  have hx := evRel hs hw x
  unfold oUnOp
  cases op <;> try exact trivial
  · simp only
    generalize (ev cx x).f env loc = u at *
    cases u <;> try exact trivial
    rename_i k n
    simp only [VRel] at hx
    simp only
    rw [intV_eq]
    refine pure_val (v' := .int k (k.wrap (Int.sub 0 n))) ?_ hw hd (by simp only [VRel])
    simp [execOp, ho, hx, Op.unary, Op.intArith]
    exact congrArg _ (Int.zero_sub n).symm
  · simp only
    generalize (ev cx x).f env loc = u at *
    cases u <;> try exact trivial
    rename_i b
    simp only [VRel] at hx
    exact pure_val (v' := .bool (!b)) (by simp [execOp, ho, hx, Op.unary]) hw hd (by simp only [VRel])

theorem extract_ok {i : Nat} {x : Operand} (ho : o.op = .extract x i) (hs : SR sy G cx ρ env loc a) (hd : DRel sy ρ st.dfs a.defers) (hw : WRel sy G B w0 ρ st w) :
    OpRes sy G B w0 P ρ a o w ((oExtract (ev cx x) i).f call env loc st) := by
  have hx := evRel hs hw x
  unfold oExtract
  simp only
  generalize (ev cx x).f env loc = u at *
  cases u <;> try exact trivial
  rename_i l
  simp only [VRel] at hx
  obtain ⟨l', e, hl⟩ := hx
  simp only
  cases hi : l[i]? with
  | none => exact trivial
  | some v =>
    obtain ⟨v', h1, h2⟩ := hl.get _ _ hi
    exact pure_val (v' := v') (by simp [execOp, ho, e, Instr.extract, h1]) hw hd h2

theorem newObj_ok {ob : Obj} {O : Go.Obj} {bi : BI} {K : Nat → St → RV} (hw : WRel sy G B w0 ρ st w) (hbi : bi.blk = w.heap.size)
    (hnew : ORel sy B (ρ.put st.next bi) (w.alloc O) st.next ob)
    (hK : ∀ st1, st1.dfs = st.dfs → ρ.le (ρ.put st.next bi) → (ρ.put st.next bi) st.next = some bi → WRel sy G B w0 (ρ.put st.next bi) st1 (w.alloc O) → OpRes sy G B w0 P ρ a o w (K st.next st1)) :
    OpRes sy G B w0 P ρ a o w (newObj ob st K) := by
  obtain ⟨h, n, d⟩ := st
  rw [newObj_eq]
  exact hK ⟨_, n + 1, d⟩ rfl (Ren.le_put hw.fresh) (Ren.put_same _ _ _) (hw.new hbi hnew)

theorem run_getObj {b : Nat} {O : Go.Obj} (h : w.heap[b]? = some O) (hc : ∀ c e f, O ≠ .cells c e f) : (getObj b).run P w = .ok O w := by
  cases O <;> first | exact absurd rfl (hc _ _ _) | simp [getObj, Sem.run, h]
theorem range_ok {t : TypeId} {x : Operand} (ho : o.op = .range t x) (hs : SR sy G cx ρ env loc a) (hd : DRel sy ρ st.dfs a.defers) (hw : WRel sy G B w0 ρ st w) :
    OpRes sy G B w0 P ρ a o w ((oRange P t (ev cx x)).f call env loc st) := by
  have hx := evRel hs hw x
  unfold oRange
  cases hu : P.underlying t with
  | none => exact trivial
  | some d =>
    simp only
    cases d <;> try exact trivial
    rotate_left
    · rename_i kt et
      simp only
      generalize (ev cx x).f env loc = u at *
      cases u <;> try exact trivial
      · rename_i b
        simp only
        cases hg : st.heap.get b with
        | none => exact trivial
        | some ob =>
          simp only
          cases ob <;> try exact trivial
          rename_i es clock
          obtain ⟨i, es', p1, p2, p3, p4⟩ := hw.obj b _ hg
          simp only [VRel] at hx
          obtain ⟨i', q1, q2⟩ := hx
          rw [p1] at q1; cases q1
          simp only
          refine newObj_ok (O := .mapIter (some i.blk) clock #[] clock) (bi := ⟨w.heap.size, 0, 0, 0⟩) hw rfl ⟨_, some i.blk, Ren.put_same _ _ _, hw.over, rfl, alloc_heap _ _, i, Ren.le_put hw.fresh _ _ p1, rfl⟩ fun st1 hd1 hle hsame hw1 => ?_
          refine ok_val (v' := .pointer (some ⟨w.heap.size, 0, none⟩)) (w' := w.alloc (.mapIter (some i.blk) clock #[] clock)) ?_ hle (by simp only [VRel]; exact ⟨_, hsame, by simp⟩) hw1 (by rw [hd1]; exact hd)
          simp [execOp, ho, q2, Instr.range, run_under hu, run_getObj p3 (by simp)]
      · simp only [VRel] at hx
        simp only
        refine newObj_ok (O := .mapIter none 0 #[] 0) (bi := ⟨w.heap.size, 0, 0, 0⟩) hw rfl ⟨_, none, Ren.put_same _ _ _, hw.over, rfl, alloc_heap _ _, rfl⟩ fun st1 hd1 hle hsame hw1 => ?_
        refine ok_val (v' := .pointer (some ⟨w.heap.size, 0, none⟩)) (w' := w.alloc (.mapIter none 0 #[] 0)) ?_ hle (by simp only [VRel]; exact ⟨_, hsame, by simp⟩) hw1 (by rw [hd1]; exact hd)
        simp [execOp, ho, hx, Instr.range, run_under hu]
    simp only
    generalize (ev cx x).f env loc = u at *
    cases u <;> try exact trivial
    rename_i l n
    simp only [VRel] at hx
    simp only [strOf]
    refine newObj_ok (O := .stringIter (bytesOf l n) 0) (bi := ⟨w.heap.size, 0, 0, 0⟩) hw rfl ⟨_, Ren.put_same _ _ _, hw.over, rfl, alloc_heap _ _⟩ fun st1 hd1 hle hsame hw1 => ?_
    refine ok_val (v' := .pointer (some ⟨w.heap.size, 0, none⟩)) (w' := w.alloc (.stringIter (bytesOf l n) 0)) ?_ hle (by simp only [VRel]; exact ⟨_, hsame, by simp⟩) hw1 (by rw [hd1]; exact hd)
    simp [execOp, ho, hx, Instr.range, run_under hu]

theorem run_setObj {b : Nat} {O O' : Go.Obj} (h : w.heap[b]? = some O) (hc : ∀ c e f, O ≠ .cells c e f) : (Go.setObj b O').run P w = .ok () { w with heap := w.heap.setIfInBounds b O' } := by
  cases O <;> first | exact absurd rfl (hc _ _ _) | simp [Go.setObj, Sem.run, h]
theorem setObj_below {b : Nat} {O' : Go.Obj} (hB : ¬ B b) : Kept B w { w with heap := w.heap.setIfInBounds b O' } :=
  ⟨rfl, rfl, rfl, by simp, fun k hk => by
    have : b ≠ k := by intro e; rw [e] at hB; exact hB hk
    simp [this]⟩
theorem setObj_ne {b k : Nat} {O' : Go.Obj} (hk : k ≠ b) : ({ w with heap := w.heap.setIfInBounds b O' } : World).heap[k]? = w.heap[k]? := by
  simp [Ne.symm hk]
theorem setObj_same {b : Nat} {O' : Go.Obj} (hb : b < w.heap.size) : ({ w with heap := w.heap.setIfInBounds b O' } : World).heap[b]? = some O' := by
  simp [hb]

/-- the entries that have not been met -/
theorem memN_eq (n : Nat) : ∀ (l : List Nat), memN n l = l.contains n
  | [] => rfl
  | m :: r => by
    unfold memN
    rw [memN_eq n r, List.contains_cons]
    congr 1
    apply Bool.eq_iff_iff.2
    rw [Nat.beq_eq, beq_iff_eq]
theorem leftE_rel {seen : List Nat} : ∀ {es : List Ent} {es' : List MapEntry}, EntRel sy ρ es es' → EntRel sy ρ (leftE seen es) (es'.filter fun e => !seen.toArray.contains e.born)
  | [], _, h => by
    simp only [EntRel] at h
    subst h
    simp [leftE, EntRel]
  | e :: r, _, h => by
    simp only [EntRel] at h
    obtain ⟨y, s, rfl, h1, h2, h3, h4⟩ := h
    have ih := leftE_rel (seen := seen) h4
    have hm : memN e.born seen = seen.contains y.born := by rw [memN_eq, h3]
    unfold leftE
    rw [List.filter_cons]
    have e2 : seen.toArray.contains y.born = seen.contains y.born := by simp
    rw [e2, hm]
    cases seen.contains y.born with
    | true => simpa using ih
    | false => simp only [cond_false, Bool.not_false, if_true, EntRel]; exact ⟨y, _, rfl, h1, h2, h3, ih⟩
theorem steady_rel {seen : List Nat} {last : Nat} {es : List Ent} {es' : Array MapEntry} (h : EntRel sy ρ es es'.toList) (hst : steady seen last es = true) : (!seen.toArray.isEmpty && !es'.isEmpty && es'.all (fun e => decide (e.born ≥ last))) = false := by
  cases seen with
  | nil => rfl
  | cons m seen =>
    cases es with
    | nil =>
      simp only [EntRel] at h
      have : es' = #[] := Array.toList_inj.1 (by simpa using h)
      subst this
      simp
    | cons e es =>
      have hall : es'.all (fun e => decide (e.born ≥ last)) = false := by
        have hany : (e :: es).any (fun e => Nat.blt e.born last) = true := hst
        have key : ∀ (l : List Ent) (l' : List MapEntry), EntRel sy ρ l l' → l.any (fun e => Nat.blt e.born last) = true → l'.all (fun e => decide (e.born ≥ last)) = false := by
          intro l
          induction l with
          | nil => intro l' _ h; cases h
          | cons x xs ih =>
            intro l' hl hx
            simp only [EntRel] at hl
            obtain ⟨y, s, rfl, _, _, h3, h4⟩ := hl
            rw [List.any_cons, Bool.or_eq_true] at hx
            rw [List.all_cons]
            rcases hx with h | h
            · have : x.born < last := by simpa [Nat.blt_eq] using h
              have : ¬ y.born ≥ last := by omega
              simp [this]
            · rw [ih s h4 h]; simp
        have := key _ _ h hany
        rw [← Array.all_toList]; exact this
      rw [hall]; simp

theorem nextMap_ok {x : Operand} {b : Nat} {i : BI} {m : Option Nat} {since last : Nat} {seen : List Nat} (ho : o.op = .next x false) (hd : DRel sy ρ st.dfs a.defers) (hw : WRel sy G B w0 ρ st w)
    (hg : st.heap.get b = some (.miter m since seen last)) (hi : ρ b = some i) (e : a.eval x = .pointer (some ⟨i.blk, 0, none⟩)) : OpRes sy G B w0 P ρ a o w (nextMap b m since seen last st) := by
  obtain ⟨i', m', h1, h2, h3, h4, h5⟩ := hw.obj b _ hg
  rw [hi] at h1; cases h1
  have over : ∀ {w1 : World}, (Instr.next (a.eval x) false o.type).run P w = .ok (.tuple #[.bool false]) w → OpRes sy G B w0 P ρ a o w (.ok (.tup [.bool false]) st) := fun hrun =>
    pure_val (v' := .tuple #[.bool false]) (by simp [execOp, ho, hrun]) hw hd (by simp only [VRel]; exact ⟨[.bool false], by simp, VRels.cons (by simp only [VRel]) VRels.nil⟩)
  unfold nextMap
  cases m with
  | none =>
    simp only at h5 ⊢
    subst h5
    refine over (w1 := w) ?_
    simp [e, Instr.next, run_getObj h4 (by simp)]
  | some mb =>
    obtain ⟨k, hk1, hk2⟩ := h5
    simp only
    cases hgm : st.heap.get mb with
    | none => exact trivial
    | some ob =>
      simp only
      cases ob <;> try exact trivial
      rename_i es clock
      obtain ⟨k', es', p1, p2, p3, p4⟩ := hw.obj mb _ hgm
      rw [hk1] at p1; cases p1
      subst hk2
      simp only
      cases hst : steady seen last es with
      | false => exact trivial
      | true =>
        simp only [cond_true]
        have hs := steady_rel p4 hst
        have hl := leftE_rel (seen := seen) p4
        have hfil : (es'.filter fun e => !seen.toArray.contains e.born).toList = es'.toList.filter fun e => !seen.toArray.contains e.born := by simp
        generalize hL : leftE seen es = L at hl
        cases L with
        | nil =>
          simp only [EntRel] at hl
          have hE : (es'.filter fun e => !seen.toArray.contains e.born) = #[] := Array.toList_inj.1 (by rw [hfil, hl])
          refine over (w1 := w) ?_
          simp only [e, Instr.next, Sem.run_bind, run_getObj h4 (by simp), Result.andThen, run_getObj p3 (by simp), hs, hE]
          simp [choose, Sem.run, Question.forced]
        | cons en r =>
          cases r with
          | cons _ _ => exact trivial
          | nil =>
            simp only [EntRel] at hl
            obtain ⟨y, s, hlist, k1, k2, k3, rfl⟩ := hl
            simp only
            cases hb : Nat.blt en.born since with
            | false => exact trivial
            | true =>
              have hlt : en.born < since := by simpa [Nat.blt_eq] using hb
              simp only [cond_true]
              obtain ⟨hp0, nx, d0⟩ := st
              rw [setObj_eq]
              have hE : (es'.filter fun e => !seen.toArray.contains e.born) = #[y] := Array.toList_inj.1 (by rw [hfil, hlist])
              have hblk : i.blk < w.heap.size := (Array.getElem?_eq_some_iff.1 h4).1
              have hw1 : WRel sy G B w0 ρ ⟨T.set hp0 (.miter (some mb) since (seen ++ [en.born]) clock) b, nx, d0⟩ { w with heap := w.heap.setIfInBounds i.blk (.mapIter (some k.blk) since (seen.toArray.push y.born) clock) } :=
                hw.update hg rfl hi h2 (setObj_below h2) (fun k hk => setObj_ne hk) ⟨i, some k.blk, hi, h2, h3, by rw [setObj_same hblk, ← k3]; simp, k, hk1, rfl⟩
              refine ok_val (v' := .tuple #[.bool true, y.key, y.val]) ?_ (Ren.le_refl _) ?_ hw1 hd
              · have hy1 : y.born < since := by omega
                have hy2 : ¬ y.born ≥ since := by omega
                have : (Instr.next (a.eval x) false o.type).run P w = .ok (.tuple #[.bool true, y.key, y.val]) { w with heap := w.heap.setIfInBounds i.blk (.mapIter (some k.blk) since (seen.toArray.push y.born) clock) } := by
                  simp only [e, Instr.next, Sem.run_bind, run_getObj h4 (by simp), Result.andThen, run_getObj p3 (by simp), hs, hE]
                  simp [choose, Sem.run, Question.forced, hy1, hy2, run_setObj h4 (by simp)]
                simp [execOp, ho, this]
              · simp only [VRel]
                exact ⟨[.bool true, y.key, y.val], by simp, VRels.cons (by simp only [VRel]) (VRels.cons k1 (VRels.cons k2 VRels.nil))⟩

theorem next_ok {x : Operand} {s : Bool} (ho : o.op = .next x s) (hs : SR sy G cx ρ env loc a) (hd : DRel sy ρ st.dfs a.defers) (hw : WRel sy G B w0 ρ st w) :
    OpRes sy G B w0 P ρ a o w ((oNext (ev cx x) s).f call env loc st) := by
  have hx := evRel hs hw x
  unfold oNext
  cases s with
  | false =>
    simp only
    generalize (ev cx x).f env loc = u at *
    cases u <;> try exact trivial
    rename_i b ofs
    simp only [VRel] at hx
    obtain ⟨i, hi, e⟩ := hx
    simp only
    cases hz : Nat.beq ofs 0 with
    | false => exact trivial
    | true =>
      have hz' : ofs = 0 := Nat.eq_of_beq_eq_true hz
      subst hz'
      simp only
      cases hg : st.heap.get b with
      | none => exact trivial
      | some ob =>
        simp only
        cases ob <;> try exact trivial
        rename_i m since seen last
        have hx := hw.obj b _ hg
        obtain ⟨i', m', h1, _, h3, _⟩ := hx
        rw [hi] at h1; cases h1
        exact nextMap_ok ho hd hw hg hi (by rw [e, h3])
  | true =>
    simp only
    generalize (ev cx x).f env loc = u at *
    cases u <;> try exact trivial
    rename_i b ofs
    simp only [VRel] at hx
    obtain ⟨i, hi, e⟩ := hx
    simp only
    cases hz : Nat.beq ofs 0 with
    | false => exact trivial
    | true =>
      have hz' : ofs = 0 := Nat.eq_of_beq_eq_true hz
      subst hz'
      simp only
      cases hg : st.heap.get b with
      | none => exact trivial
      | some ob =>
        simp only
        cases ob <;> try exact trivial
        rename_i l n p
        obtain ⟨i', h1, h2, h3, h4⟩ := hw.obj b _ hg
        rw [hi] at h1; cases h1
        have hblk : i.blk < w.heap.size := (Array.getElem?_eq_some_iff.1 h4).1
        have e' : a.eval x = .pointer (some ⟨i.blk, 0, none⟩) := by rw [e, h3]
        simp only [nextStr]
        cases hp : Nat.blt p l with
        | false =>
          have hge : ¬ p < l := fun h => by
            have h2 : Nat.blt p l = true := by simpa [Nat.blt_eq] using h
            rw [h2] at hp; cases hp
          simp only [cond_false]
          refine pure_val (v' := .tuple #[.bool false]) ?_ hw hd (by simp only [VRel]; exact ⟨[.bool false], by simp, VRels.cons (by simp only [VRel]) VRels.nil⟩)
          simp [execOp, ho, e', Instr.next, run_getObj h4 (by simp), bytesOf_size, hge]
        | true =>
          have hlt : p < l := by simpa [Nat.blt_eq] using hp
          simp only [cond_true, forceN_eq]
          cases hc : Nat.blt (byteAt n p) 128 with
          | false => exact trivial
          | true =>
            have hc' : byteAt n p < 128 := by simpa [Nat.blt_eq] using hc
            obtain ⟨hp0, nx, d0⟩ := st
            simp only [cond_true, setObj_eq]
            have hsz : p < (bytesOf l n).size := by rw [bytesOf_size]; exact hlt
            have hb : ((bytesOf l n)[p]'hsz).toNat = byteAt n p := by
              have h := bytesOf_get (l := l) (n := n) hlt
              rw [getElem?_pos (bytesOf l n) p hsz] at h
              have h' := Option.some.inj h
              rw [h']
              have := byteAt_eq n p
              exact Int.ofNat_inj.1 this
            have hdec : Utf8.decode (bytesOf l n) p = (byteAt n p, 1) := by
              rw [decode_ascii (bytesOf l n) p hsz (by rw [hb]; exact hc'), hb]
            have hw1 : WRel sy G B w0 ρ ⟨T.set hp0 (.siter l n (Nat.succ p)) b, nx, d0⟩ { w with heap := w.heap.setIfInBounds i.blk (.stringIter (bytesOf l n) (p + 1)) } :=
              hw.update hg rfl hi h2 (setObj_below h2) (fun k hk => setObj_ne hk) ⟨i, hi, h2, h3, setObj_same hblk⟩
            refine ok_val (v' := .tuple #[.bool true, .int .i64 p, .int .i32 (byteAt n p)]) ?_ (Ren.le_refl _) ?_ hw1 hd
            · simp [execOp, ho, e', Instr.next, run_getObj h4 (by simp), bytesOf_size, hlt, hdec, run_setObj h4 (by simp), goInt]
            · simp only [VRel]
              exact ⟨[.bool true, .int .i64 p, .int .i32 (byteAt n p)], by simp, VRels.cons (by simp only [VRel]) (VRels.cons (by simp only [VRel]; rfl) (VRels.cons (by simp only [VRel]; rfl) VRels.nil))⟩
end
end Go.Proofs.YtbmbjaogcmokoaaGreatDoorX
