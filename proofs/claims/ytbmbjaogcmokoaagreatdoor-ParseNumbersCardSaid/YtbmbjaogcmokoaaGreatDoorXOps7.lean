/- Operations: append. -/
import Derived.Test.YtbmbjaogcmokoaaGreatDoorXOps6
namespace Go.Proofs.YtbmbjaogcmokoaaGreatDoorX
open Go Go.RowKit
set_option linter.unusedVariables false

theorem growBy_le (need : Nat) : ∀ (r c : Nat), c ≤ need + (need + 768) / 4 → Builtin.growBy need r c ≤ need + (need + 768) / 4
  | 0, c, h => h
  | r + 1, c, h => by
    unfold Builtin.growBy
    split
    · exact h
    · exact growBy_le need r _ (by omega)
theorem nextcap_le {need cap : Nat} (h : cap < need) : Builtin.nextslicecap need cap ≤ 2 * need + 768 := by
  unfold Builtin.nextslicecap
  split
  · omega
  · split
    · omega
    · have := growBy_le need 4 cap (by omega)
      omega

section
variable {sy : Sy} {G : Nat} {B : Kp} {w0 : World} {P : Program} {ρ ρ' : Ren} {cx : Cx} {env : List CV} {loc : Loc} {a : Act} {st st' : St} {w w' : World} {o : Oper} {call : Caller}

theorem run_by {t n : Nat} (h : byOf P t = some n) (w : World) : ∃ i, (typeInfo t).run P w = .ok i w ∧ i.bytes = n := by
  unfold byOf at h
  cases hi : P.info? t with
  | none => rw [hi] at h; cases h
  | some i => rw [hi] at h; cases h; exact ⟨i, run_info hi w, rfl⟩

theorem run_askRoom (n : Nat) (w : World) : (askRoom n).run P w = .ok () w := by
  unfold askRoom
  split <;> simp [mark, Sem.run]
theorem noInt_run {t2 : Nat} (h : noInt P t2 = true) (w : World) : ∃ d, (underlying t2).run P w = .ok d w ∧ ∀ k, d ≠ .int k := by
  unfold noInt at h
  split at h
  · rename_i d hu
    refine ⟨d, run_under hu w, fun k e => ?_⟩
    subst e
    cases h
  · cases h

theorem run_append_room {t t2 e n es : Nat} {ty : TypeId} {x : Value} {base : Option Addr} {sLen sCap : Nat} {new : Array Value} (hu : P.underlying t = some (.slice e)) (h2 : noInt P t2 = true) (hes : szOf P e = some es)
    (hlen : (Builtin.lenOf x).run P w = .ok n w) (hnew : (Builtin.firstCells es n x).run P w = .ok new w) (hle : sLen + n ≤ sCap)
    (hst : (match base with | some a => storeCells (a.add (sLen * es)) new.toList | none => (pure () : Sem Unit)).run P w = .ok () w') :
    (Builtin.append_ #[t, t2] ty #[.slice base sLen sCap, x]).run P w = .ok (.slice base (sLen + n) sCap) w' := by
  obtain ⟨d, hd, hk⟩ := noInt_run h2 w
  unfold Builtin.append_
  simp only [List.getElem?_toArray, List.getElem?_cons_zero, List.getElem?_cons_succ, Sem.run_bind, run_under hu, Result.andThen, run_size hes, hd, Sem.run_pure]
  cases d <;> first
    | exact absurd rfl (hk _)
    | (cases base <;> simp [hlen, hle, hnew] at hst ⊢ <;> first | exact hst | (rw [hst]; rfl))

theorem run_append_grow {t t2 e n es by_ : Nat} {ty : TypeId} {x z : Value} {base : Option Addr} {sLen sCap : Nat} {old new : Array Value} (hu : P.underlying t = some (.slice e)) (h2 : noInt P t2 = true) (hes : szOf P e = some es)
    (hby : byOf P e = some by_) (hz : ∀ w, (zeroValue e).run P w = .ok z w) (hzs : z.cells.size = es)
    (hlen : (Builtin.lenOf x).run P w = .ok n w) (hnew : (Builtin.firstCells es n x).run P w.drew = .ok new w.drew) (hlt : sCap < sLen + n)
    (hold : (Builtin.firstCells es sLen (.slice base sLen sCap)).run P w.drew = .ok old w.drew) (hroom : roomFor (sLen + n) by_ = true) :
    ∃ cap rest, sLen + n ≤ cap ∧ Array.size rest = (cap - (sLen + n)) * es ∧
      (Builtin.append_ #[t, t2] ty #[.slice base sLen sCap, x]).run P w = .ok (.slice (some ⟨w.heap.size, 0, none⟩) (sLen + n) cap) (w.drew.alloc (.cells (old ++ new ++ rest) e)) := by
  obtain ⟨d, hd, hk⟩ := noInt_run h2 w
  obtain ⟨i, hi⟩ : ∃ i, P.info? e = some i := by
    unfold byOf at hby
    cases h : P.info? e with
    | none => rw [h] at hby; cases hby
    | some i => exact ⟨i, rfl⟩
  have hb : i.bytes = by_ := by unfold byOf at hby; rw [hi] at hby; cases hby; rfl
  simp only [roomFor, Bool.and_eq_true, Nat.ble_eq] at hroom
  obtain ⟨r1, r2⟩ := hroom
  have r2' : (2 * (sLen + n) + 768) * by_ ≤ 281474976710656 := r2
  generalize hcap : (Question.appendCap (sLen + n) sCap e).cut (w.tape w.drawn (Question.appendCap (sLen + n) sCap e)) = cap
  have hcap' : sLen + n ≤ cap := by rw [← hcap]; exact Nat.le_add_right _ _
  have hforced : (Question.appendCap (sLen + n) sCap e).forced = false := rfl
  refine ⟨cap, Builtin.zeroCells z.cells (cap - (sLen + n)), hcap', by simp [Builtin.zeroCells, hzs], ?_⟩
  have n1 : ¬ sLen + n ≤ sCap := by omega
  have n2 : ¬ ((9223372036854775807 : Int) < (sLen : Int) + (n : Int) ∧ i.bytes = 0) := by omega
  have n3 : ¬ Builtin.nextslicecap (sLen + n) sCap * i.bytes > 2 ^ 48 := by
    have h1 := nextcap_le hlt
    have h2 : Builtin.nextslicecap (sLen + n) sCap * i.bytes ≤ (2 * (sLen + n) + 768) * i.bytes := Nat.mul_le_mul_right _ h1
    rw [hb] at h2 ⊢
    omega
  unfold Builtin.append_
  simp only [List.getElem?_toArray, List.getElem?_cons_zero, List.getElem?_cons_succ, Sem.run_bind, run_under hu, Result.andThen, run_size hes, hd, Sem.run_pure]
  cases d <;> first
    | exact absurd rfl (hk _)
    | (simp [hlen, n1, n2, n3, run_info hi, hforced, hcap, hnew, hold, hz]; rw [run_newRow]; rfl)

theorem byteCells_rel : ∀ (l n : Nat), VRels sy ρ (byteCells l n) ((bytesL l n).map fun b => .int .u8 b.toNat)
  | 0, n => (VRels.nil : VRels sy ρ [] [])
  | l + 1, n => by
    have e : byteCells (l + 1) n = CV.int .u8 (.ofNat (n % 256)) :: byteCells l (n / 256) := by
      have e0 : byteCells (l + 1) n = forceN (fun c => forceN (fun m => CV.int .u8 (.ofNat c) :: byteCells l m) (Nat.div n 256)) (Nat.mod n 256) := rfl
      rw [e0, forceN_eq, forceN_eq]
      rfl
    rw [e, bytesL_succ, List.map_cons]
    refine VRels.cons ?_ (byteCells_rel l _)
    simp only [VRel]
    simp [UInt8.toNat_ofNat']

/-- what is appended, or appended to -/
theorem xCells_rel {es : Nat} {x : CV} {x' : Value} {K : Nat → List CV → RV} {r : RV} (hx : VRel sy ρ x x') (hw : WRel sy G B w0 ρ st w) (hr : xCells es x st K = r) :
    (∃ k, r = .err k) ∨ ∃ n l l', K n l = r ∧ VRels sy ρ l l' ∧ l'.length = n * es ∧ (Builtin.lenOf x').run P w = .ok n w ∧ (∀ w1 : World, w1.heap = w.heap → (Builtin.firstCells es n x').run P w1 = .ok l'.toArray w1) ∧
      (∀ base m cp, x' = .slice (some base) m cp → ∀ c e fz, w.heap[base.block]? = some (.cells c e fz) → ∀ k : Nat, k < l'.length → c[base.off + k]? = l'[k]?) := by
  unfold xCells at hr
  cases x <;> try exact .inl ⟨_, hr.symm⟩
  · rename_i l n
    simp only at hr
    cases hb : Nat.beq es 1 with
    | false => rw [hb] at hr; exact .inl ⟨_, hr.symm⟩
    | true =>
      have he : es = 1 := Nat.eq_of_beq_eq_true hb
      subst he
      rw [hb] at hr
      simp only [VRel] at hx
      subst hx
      refine .inr ⟨l, _, _, hr, byteCells_rel l n, by simp [bytesL_length], by simp [Builtin.lenOf, bytesOf_size], fun w1 _ => ?_, fun _ _ _ h => by cases h⟩
      simp [Builtin.firstCells, bytesOf]
      rw [List.take_of_length_le (by simp [bytesL_length])]
  · rename_i b o l c q
    simp only [VRel] at hx
    obtain ⟨i, hi, rfl⟩ := hx
    simp only at hr
    cases hc : cellsAt b st with
    | none => rw [hc] at hr; exact .inl ⟨_, hr.symm⟩
    | some cells =>
      rw [hc] at hr
      simp only at hr
      cases hl : loadN cells (Nat.mul l es) o with
      | none => rw [hl] at hr; exact .inl ⟨_, hr.symm⟩
      | some cs =>
        rw [hl] at hr
        obtain ⟨i', c', e, fz, k1, k2, k3⟩ := cellsAt_rel hw hc
        rw [hi] at k1; cases k1
        obtain ⟨l', q1, q2, q3⟩ := loadN_rel k3 hl
        refine .inr ⟨l, cs, l', hr, q2, q1, by simp [Builtin.lenOf], fun w1 hw1 => ?_, fun base m cp hb c3 e3 fz3 h3 k hk => ?_⟩
        · have q1' : l * es = l'.length := q1.symm
          simp only [Builtin.firstCells]
          rw [q1']
          exact run_loadCells (by rw [hw1]; exact k2) l' (by rw [q1]; exact q3)
        · cases hb
          simp only at h3 ⊢
          rw [k2] at h3
          cases h3
          exact q3 k (by rw [← q1]; exact hk)
  · simp only [VRel] at hx
    subst hx
    exact .inr ⟨0, [], [], hr, VRels.nil, by simp, by simp [Builtin.lenOf], fun w1 _ => by simp [Builtin.firstCells], fun _ _ _ h => by cases h⟩

theorem append_call {c : Call} {x y : Operand} {t t2 : TypeId} (ho : o.op = .call c) (hc : c.callee = .builtin .append) (ha : c.args.toList = [x, y]) (ht : c.argTypes.toList = [t, t2]) :
    (execOp a.eval o).run P w = ((Builtin.append_ #[t, t2] o.type #[a.eval x, a.eval y]).run P w).andThen fun v w => .ok (.value v) w := by
  have ha' : c.args = #[x, y] := Array.toList_inj.1 (by simpa using ha)
  have ht' : c.argTypes = #[t, t2] := Array.toList_inj.1 (by simpa using ht)
  rw [builtin_call (s := do pure (.value (← Builtin.append_ #[t, t2] o.type #[a.eval x, a.eval y]))) ho hc (fun _ => by rw [ha', ht']; simp [builtin])]
  simp

theorem rowF_eq (cs : List CV) (es fr : Nat) (inf : Inf) (h : T Obj) (n : Nat) (d : List Dfr) (K : Nat → St → RV) :
    rowF cs es fr inf ⟨h, n, d⟩ K = K n ⟨T.set h (.row (rowOf cs 0 .nil) cs.length es fr inf) n, n + 1, d⟩ := by
  simp [rowF, forceN_eq, len_eq]

/-- a new row whose cells are given, in a block with more behind -/
theorem WRel.rowFr {h : T Obj} {n : Nat} {d : List Dfr} {cs : List CV} {vs : List Value} {es ext fr : Nat} {arr : Array Value} {elem : TypeId} {inf : Inf} {rest : List Value} (hw : WRel sy G B w0 ρ ⟨h, n, d⟩ w)
    (hv : VRels sy ρ cs vs) (ha : arr.toList = vs ++ rest) (hr : ext * es ≤ rest.length) (hinf : (∀ t, inf.ty = some t → elem = t) ∧ inf.wh = false) :
    WRel sy G B w0 (ρ.put n ⟨w.heap.size, 0, ext, es⟩) ⟨T.set h (.row (rowOf cs 0 .nil) cs.length es fr inf) n, n + 1, d⟩ (w.alloc (.cells arr elem)) := by
  refine hw.new rfl ⟨_, arr, elem, (0, 0), Ren.put_same _ _ _, hw.over, ⟨rfl, hinf.1, fun _ => rfl, fun h => (by rw [hinf.2] at h; cases h), fun _ => .inl rfl⟩, alloc_heap _ _, ?_, fun j v hj => ?_, fun j _ _ => by simp⟩
  · have h1 : arr.size = vs.length + rest.length := by rw [← Array.length_toList, ha]; simp
    have h2 := hv.length
    simp only
    omega
  · rw [rowOf_get] at hj
    by_cases hlt : 0 ≤ j ∧ j < 0 + cs.length
    · rw [if_pos hlt] at hj
      obtain ⟨v', h1, h2⟩ := hv.get (j - 0) v hj
      have hlt' : j < cs.length := by omega
      refine ⟨hlt', v', ?_, h2.mono sy (Ren.le_put hw.fresh)⟩
      show arr[j + 0]? = _
      rw [Nat.add_zero, ← Array.getElem?_toList, ha, List.getElem?_append_left (by rw [hv.length]; exact hlt')]
      simpa using h1
    · rw [if_neg hlt, T.get_nil] at hj; cases hj

/-- the same, where the block bears a frozen range -/
theorem WRel.rowFz {h : T Obj} {n : Nat} {d : List Dfr} {cs : List CV} {vs : List Value} {es ext fr : Nat} {arr : Array Value} {elem : TypeId} {fz : Nat × Nat} {inf : Inf} {rest : List Value} (hw : WRel sy G B w0 ρ ⟨h, n, d⟩ w)
    (hv : VRels sy ρ cs vs) (ha : arr.toList = vs ++ rest) (hr : ext * es ≤ rest.length) (hfz : ∀ j : Nat, j < cs.length + ext * es → ¬ (fz.1 ≤ j ∧ j < fz.2)) (hinf : inf = ⟨none, true, false, false⟩) :
    WRel sy G B w0 (ρ.put n ⟨w.heap.size, 0, ext, es⟩) ⟨T.set h (.row (rowOf cs 0 .nil) cs.length es fr inf) n, n + 1, d⟩ (w.alloc (.cells arr elem fz)) := by
  subst hinf
  refine hw.new rfl ⟨_, arr, elem, fz, Ren.put_same _ _ _, hw.over, ⟨rfl, fun _ h => (by cases h), fun _ => rfl, fun h => (by cases h), fun h => (by cases h)⟩, alloc_heap _ _, ?_, fun j v hj => ?_, fun j _ h => hfz j h⟩
  · have h1 : arr.size = vs.length + rest.length := by rw [← Array.length_toList, ha]; simp
    have h2 := hv.length
    simp only
    omega
  · rw [rowOf_get] at hj
    by_cases hlt : 0 ≤ j ∧ j < 0 + cs.length
    · rw [if_pos hlt] at hj
      obtain ⟨v', h1, h2⟩ := hv.get (j - 0) v hj
      have hlt' : j < cs.length := by omega
      refine ⟨hlt', v', ?_, h2.mono sy (Ren.le_put hw.fresh)⟩
      show arr[j + 0]? = _
      rw [Nat.add_zero, ← Array.getElem?_toList, ha, List.getElem?_append_left (by rw [hv.length]; exact hlt')]
      simpa using h1
    · rw [if_neg hlt, T.get_nil] at hj; cases hj

theorem WRel.drew' {w : World} (h : WRel sy G B w0 ρ st w) : WRel sy G B w0 ρ st w.drew := h.of_heap rfl rfl rfl rfl

/-- append to a new row -/
theorem grow_ok {c : Call} {x y : Operand} {t t2 e n es by_ fr : Nat} {inf : Inf} {z : Value} {base : Option Addr} {sLen sCap : Nat} {old new : List CV} {old' new' : List Value}
    (ho : o.op = .call c) (hc : c.callee = .builtin .append) (ha : c.args.toList = [x, y]) (ht : c.argTypes.toList = [t, t2])
    (hu : P.underlying t = some (.slice e)) (h2 : noInt P t2 = true) (hes : szOf P e = some es) (hby : byOf P e = some by_) (hz : ∀ w, (zeroValue e).run P w = .ok z w) (hzs : z.cells.size = es)
    (hx : a.eval x = .slice base sLen sCap) (hlen : (Builtin.lenOf (a.eval y)).run P w = .ok n w)
    (hnew : ∀ w1 : World, w1.heap = w.heap → (Builtin.firstCells es n (a.eval y)).run P w1 = .ok new'.toArray w1)
    (hold : ∀ w1 : World, w1.heap = w.heap → (Builtin.firstCells es sLen (.slice base sLen sCap)).run P w1 = .ok old'.toArray w1)
    (hlt : sCap < sLen + n) (hroom : roomFor (sLen + n) by_ = true) (ro : VRels sy ρ old old') (rn : VRels sy ρ new new')
    (hinf : (∀ t, inf.ty = some t → e = t) ∧ inf.wh = false) (hd : DRel sy ρ st.dfs a.defers) (hw : WRel sy G B w0 ρ st w) :
    OpRes sy G B w0 P ρ a o w (appendNew es fr inf old new (sLen + n) st) := by
  obtain ⟨cap, rest, hcap, hrs, hrun⟩ := run_append_grow (ty := o.type) (x := a.eval y) hu h2 hes hby hz hzs hlen (hnew _ rfl) hlt (hold _ rfl) hroom
  obtain ⟨h, nx, d⟩ := st
  unfold appendNew
  rw [rowF_eq]
  have hw1 := (hw.drew').rowFr (arr := old'.toArray ++ new'.toArray ++ rest) (vs := old' ++ new') (rest := rest.toList) (ext := cap - (sLen + n)) (es := es) (fr := fr) (elem := e) (ro.append rn) (by simp) (by simp [hrs]) hinf
  refine ok_val (v' := .slice (some ⟨w.heap.size, 0, none⟩) (sLen + n) cap) ?_ (Ren.le_put hw.fresh) ?_ hw1 hd
  · rw [append_call ho hc ha ht, hx, hrun]
    rfl
  · simp only [VRel]
    refine ⟨_, Ren.put_same _ _ _, ?_⟩
    simp only [if_true, Nat.zero_add]
    rw [show sLen + n + (cap - (sLen + n)) = cap by omega]
    rfl
end
end Go.Proofs.YtbmbjaogcmokoaaGreatDoorX
