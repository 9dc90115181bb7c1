/- Operations: append (2), calls; all of them. -/
import Derived.Test.YtbmbjaogcmokoaaGreatDoorXConv
namespace Go.Proofs.YtbmbjaogcmokoaaGreatDoorX
open Go Go.RowKit
set_option linter.unusedVariables false

section
variable {sy : Sy} {G : Nat} {B : Kp} {w0 : World} {P : Program} {ρ ρ' : Ren} {cx : Cx} {env : List CV} {loc : Loc} {a : Act} {st st' : St} {w w' : World} {o : Oper} {call : Caller}

/-- append to a row whose capacity is not known: in its place, or in a new one -/
theorem appendOpen_ok {c : Call} {x y : Operand} {t t2 e n es by_ : Nat} {z : Value} {b ofs sLen cp : Nat} {i : BI} {old new : List CV} {old' new' : List Value}
    (ho : o.op = .call c) (hc : c.callee = .builtin .append) (ha : c.args.toList = [x, y]) (ht : c.argTypes.toList = [t, t2])
    (hu : P.underlying t = some (.slice e)) (h2 : noInt P t2 = true) (hes : szOf P e = some es) (hby : byOf P e = some by_) (hz : ∀ w, (zeroValue e).run P w = .ok z w) (hzs : z.cells.size = es)
    (hi : ρ b = some i) (hx : a.eval x = .slice (some ⟨i.blk, ofs + i.sh, none⟩) sLen (cp + i.ext)) (hlen : (Builtin.lenOf (a.eval y)).run P w = .ok n w)
    (hnew : ∀ w1 : World, w1.heap = w.heap → (Builtin.firstCells es n (a.eval y)).run P w1 = .ok new'.toArray w1) (hnl : new'.length = n * es)
    (hold : ∀ w1 : World, w1.heap = w.heap → (Builtin.firstCells es sLen (.slice (some ⟨i.blk, ofs + i.sh, none⟩) sLen (cp + i.ext))).run P w1 = .ok old'.toArray w1) (hol : old'.length = sLen * es)
    (hcell : ∀ c e fz, w.heap[i.blk]? = some (.cells c e fz) → ∀ k : Nat, k < old'.length → c[ofs + i.sh + k]? = old'[k]?)
    (hlt : cp < sLen + n) (hroom : roomFor (sLen + n) by_ = true) (ro : VRels sy ρ old old') (rn : VRels sy ρ new new')
    (hd : DRel sy ρ st.dfs a.defers) (hw : WRel sy G B w0 ρ st w) :
    OpRes sy G B w0 P ρ a o w (appendOpen e es old new (sLen + n) b ofs sLen cp st) := by
  unfold appendOpen
  cases hg : st.heap.get b with
  | none => exact trivial
  | some ob =>
    simp only
    cases ob <;> try exact trivial
    rename_i cells n' es' fr inf
    simp only
    have htf : ∀ t, tyIf inf.ty e = some t → inf.ty = some t ∧ e = t := fun t h => by
      unfold tyIf at h
      cases hty : inf.ty with
      | none => rw [hty] at h; cases h
      | some u =>
        rw [hty] at h
        cases hb : Nat.beq u e with
        | false => simp only [hb, cond_false] at h; cases h
        | true =>
          have : u = e := Nat.eq_of_beq_eq_true hb
          simp only [hb, cond_true, Option.some.injEq] at h
          exact ⟨by rw [this, h], h⟩
    cases hcd : (Nat.beq es es' && (Nat.beq (Nat.add ofs (Nat.mul cp es)) n' && (Nat.ble fr (Nat.add ofs (Nat.mul sLen es)) && new.all oneCell))) with
    | false => exact trivial
    | true =>
      simp only [Bool.and_eq_true, Nat.beq_eq, Nat.ble_eq] at hcd
      obtain ⟨rfl, q2, q3, q4⟩ := hcd
      have q2' : ofs + cp * es = n' := q2
      have q3' : fr ≤ ofs + sLen * es := q3
      simp only [cond_true]
      obtain ⟨h, nx, d⟩ := st
      simp only [setObj_eq]
      obtain ⟨i', c0, e0, fz, k1, k2, k3, k4, k5, k6, k7⟩ := hw.obj b _ hg
      rw [hi] at k1; cases k1
      have hlt0 : i.blk < w.heap.size := (Array.getElem?_eq_some_iff.1 k4).1
      have hdead : WRel sy G B w0 ρ ⟨T.set h .dead b, nx, d⟩ w :=
        hw.update hg rfl hi k2 (Kept.refl _ _) (fun _ _ => rfl) trivial
      by_cases hin : sLen + n ≤ cp + i.ext
      · -- in its place
        have hvl := rn.length
        have hvo := ro.length
        have hmul : (sLen + n) * es ≤ (cp + i.ext) * es := Nat.mul_le_mul_right _ hin
        rw [Nat.add_mul, Nat.add_mul] at hmul
        have hfz : ∀ j, j < new'.length → ¬ (fz.1 ≤ ofs + i.sh + sLen * es + 0 + j ∧ ofs + i.sh + sLen * es + 0 + j < fz.2) := fun j hj => by
          have := k7 (ofs + sLen * es + j) (by omega) (by omega)
          rw [show ofs + i.sh + sLen * es + 0 + j = ofs + sLen * es + j + i.sh by omega]; exact this
        obtain ⟨c', z1, z2, z3⟩ := run_storeCells (P := P) new' w i.blk (ofs + i.sh + sLen * es) 0 c0 e0 fz k4 (by omega) hfz (all_one rn q4)
        have hrun := run_append_room (P := P) (ty := o.type) (x := a.eval y) (base := some ⟨i.blk, ofs + i.sh, none⟩) (sLen := sLen) (sCap := cp + i.ext) (w := w) (w' := setRow w i.blk c' e0 fz)
          hu h2 hes hlen (hnew _ rfl) hin (by simpa [addr_add] using z2)
        unfold appendNew
        rw [rowF_eq]
        have hbel : Kept B w (setRow w i.blk c' e0 fz) := ⟨rfl, rfl, rfl, by rw [setRow_size]; exact Nat.le_refl _, fun k hk => setRow_heap_ne (by intro e; rw [e] at hk; exact k2 hk) _ _ _⟩
        have hle : ρ.le (ρ.put nx ⟨i.blk, i.sh + ofs, cp + i.ext - (sLen + n), i.es⟩) := Ren.le_put hw.fresh
        refine ok_val (ρ' := ρ.put nx ⟨i.blk, i.sh + ofs, cp + i.ext - (sLen + n), i.es⟩) (v' := .slice (some ⟨i.blk, ofs + i.sh, none⟩) (sLen + n) (cp + i.ext)) (w' := setRow w i.blk c' e0 fz) ?_ hle ?_ ?_ hd
        · rw [append_call ho hc ha ht, hx, hrun]
          rfl
        · simp only [VRel]
          refine ⟨_, Ren.put_same _ _ _, ?_⟩
          simp only [if_true, Nat.zero_add]
          rw [show sLen + n + (cp + i.ext - (sLen + n)) = cp + i.ext by omega, Nat.add_comm i.sh]
        · -- the state
          have hnr : ORel sy B (ρ.put nx ⟨i.blk, i.sh + ofs, cp + i.ext - (sLen + n), i.es⟩) (setRow w i.blk c' e0 fz) nx (.row (rowOf (old ++ new) 0 .nil) (old ++ new).length es (Nat.sub fr ofs) ⟨tyIf inf.ty e, inf.z && Nat.beq ofs 0, false, inf.low⟩) := by
            refine ⟨_, c', e0, fz, Ren.put_same _ _ _, k2, ⟨k3.1, fun t h => k3.2.1 t (htf t h).1, fun h => (by rw [Bool.and_eq_true] at h; have h1 := k3.2.2.1 h.1; have h2 := Nat.eq_of_beq_eq_true h.2; show i.sh + ofs = 0; omega), fun h => (by cases h), fun h => (k3.2.2.2.2 h).imp id fun h => (by show fz.2 ≤ Nat.sub fr ofs + (i.sh + ofs); have : Nat.sub fr ofs = fr - ofs := rfl; omega)⟩, setRow_heap_same hlt0 _ _ _, ?_, fun j v hj => ?_, fun j hj1 hj2 => ?_⟩
            · simp only [List.length_append]
              have e1 : (cp + i.ext - (sLen + n)) * es = (cp * es + i.ext * es) - (sLen * es + n * es) := by rw [Nat.sub_mul, Nat.add_mul, Nat.add_mul]
              rw [e1, z1]
              omega
            · rw [rowOf_get] at hj
              by_cases hjj : 0 ≤ j ∧ j < 0 + (old ++ new).length
              · rw [if_pos hjj] at hj
                have hjl : j < (old ++ new).length := by omega
                refine ⟨hjl, ?_⟩
                simp only [Nat.sub_zero] at hj
                show ∃ v', c'[j + (i.sh + ofs)]? = some v' ∧ _
                rw [z3]
                by_cases hjo : j < old.length
                · rw [List.getElem?_append_left hjo] at hj
                  obtain ⟨v', r1, r2⟩ := ro.get _ _ hj
                  refine ⟨v', ?_, r2.mono sy hle⟩
                  rw [if_neg (by omega)]
                  -- the old cells, as they were read
                  rw [show j + (i.sh + ofs) = ofs + i.sh + j by omega, hcell c0 e0 fz k4 j (by omega)]
                  exact r1
                · rw [List.getElem?_append_right (by omega)] at hj
                  obtain ⟨v', r1, r2⟩ := rn.get _ _ hj
                  refine ⟨v', ?_, r2.mono sy hle⟩
                  simp only [List.length_append] at hjl
                  rw [if_pos (by omega), show j + (i.sh + ofs) - (ofs + i.sh + sLen * es + 0) = j - old.length by omega]
                  exact r1
              · rw [if_neg hjj, T.get_nil] at hj; cases hj
            · have hj1' : fr - ofs ≤ j := hj1
              have := k7 (ofs + j) (by omega) (by
                simp only [List.length_append] at hj2
                have e1 : (cp + i.ext - (sLen + n)) * es = (cp * es + i.ext * es) - (sLen * es + n * es) := by rw [Nat.sub_mul, Nat.add_mul, Nat.add_mul]
                rw [e1] at hj2
                omega)
              rw [show j + (i.sh + ofs) = ofs + j + i.sh by omega]; exact this
          exact {
            below := hw.below.trans hbel
            base := fun k hk => by rw [setRow_size]; exact hw.base k hk
            ro := hw.ro
            gone := fun b' hb' => by
              obtain ⟨q1, q2⟩ := hw.gone b' hb'
              simp only at q1
              refine ⟨by simp only; omega, ?_⟩
              unfold Ren.put
              rw [if_neg (by omega)]
              exact q2
            glob := fun g hgl => by obtain ⟨i', h1, h2⟩ := hw.glob g hgl; exact ⟨i', hle _ _ h1, h2⟩
            dom := fun b' i' hb' => by
              unfold Ren.put at hb'
              by_cases e : b' = nx
              · subst e; exact Nat.lt_succ_self _
              · rw [if_neg e] at hb'; have := hw.dom _ _ hb'; simp only at this ⊢; omega
            obj := fun x' ox hx' => by
              simp only [T.get_set] at hx'
              by_cases e : x' = nx
              · subst e; rw [if_pos rfl] at hx'; cases hx'; exact hnr
              · rw [if_neg e] at hx'
                by_cases e2 : x' = b
                · subst e2; rw [if_pos rfl] at hx'; cases hx'; trivial
                · rw [if_neg e2] at hx'
                  have hox := hw.obj x' ox hx'
                  have : ORel sy B ρ (setRow w i.blk c' e0 fz) x' ox := by
                    by_cases hown : owned ox = true
                    · exact hox.of_block fun i' hi' => setRow_heap_ne (fun e3 => e2 (hw.inj x' b ox _ i' i hx' hown hg rfl hi' hi e3)) _ _ _
                    · cases ox <;> simp [owned] at hown
                      · obtain ⟨i', c3, e3, fz3, h1, h2, h3, h4⟩ := hox
                        exact ⟨i', c3, e3, fz3, h1, h2, by rw [setRow_heap_ne (by intro e; rw [e] at h2; exact k2 (hw.ro _ h2))]; exact h3, h4⟩
                      · trivial
                  exact this.mono hle
            inj := fun b1 b2 o1 o2 i1 i2 h1 g1 h2' g2 r1 r2 er => by
              simp only [T.get_set] at h1 h2'
              unfold Ren.put at r1 r2
              by_cases e1 : b1 = nx
              · by_cases e2 : b2 = nx
                · rw [e1, e2]
                · rw [if_neg e2] at h2' r2
                  rw [if_pos e1] at r1
                  cases r1
                  by_cases e3 : b2 = b
                  · subst e3; rw [if_pos rfl] at h2'; cases h2'; cases g2
                  · rw [if_neg e3] at h2'
                    exact absurd (hw.inj b b2 _ o2 i i2 hg rfl h2' g2 hi r2 er) (Ne.symm e3)
              · rw [if_neg e1] at h1 r1
                by_cases e4 : b1 = b
                · subst e4; rw [if_pos rfl] at h1; cases h1; cases g1
                · rw [if_neg e4] at h1
                  by_cases e2 : b2 = nx
                  · rw [if_pos e2] at r2
                    cases r2
                    exact absurd (hw.inj b1 b o1 _ i1 i h1 g1 hg rfl r1 hi er) e4
                  · rw [if_neg e2] at h2' r2
                    by_cases e3 : b2 = b
                    · subst e3; rw [if_pos rfl] at h2'; cases h2'; cases g2
                    · rw [if_neg e3] at h2'
                      exact hw.inj b1 b2 o1 o2 i1 i2 h1 g1 h2' g2 r1 r2 er }
      · -- a new row
        exact grow_ok ho hc ha ht hu h2 hes hby hz hzs hx hlen hnew hold (by omega) hroom ro rn ⟨fun t h => (htf t h).2, rfl⟩ hd hdead

theorem append_ok {c : Call} {x y : Operand} {t t2 : TypeId} (ho : o.op = .call c) (hc : c.callee = .builtin .append) (ha : c.args.toList = [x, y]) (ht : c.argTypes.toList = [t, t2])
    (hs : SR sy G cx ρ env loc a) (hd : DRel sy ρ st.dfs a.defers) (hw : WRel sy G B w0 ρ st w) :
    OpRes sy G B w0 P ρ a o w ((oAppend P t t2 (ev cx x) (ev cx y)).f call env loc st) := by
  have hx := evRel hs hw x
  have hy := evRel hs hw y
  unfold oAppend
  cases he : elemOfSlice P t with
  | none => exact trivial
  | some e =>
    have hu := elemOfSlice_spec he
    cases hes : szOf P e with
    | none => simp only [hes]; exact trivial
    | some es =>
      cases hby : byOf P e with
      | none => simp only [hes, hby]; exact trivial
      | some by_ =>
        cases hz : zeroOf P e with
        | none => simp only [hes, hby, hz]; exact trivial
        | some z =>
          simp only [hes, hby, hz]
          cases hcd : (Nat.beq (len (cellsOf z)) es && noInt P t2) with
          | false => exact trivial
          | true =>
            simp only [Bool.and_eq_true, Nat.beq_eq, len_eq] at hcd
            obtain ⟨hzl, h2⟩ := hcd
            obtain ⟨zi, zv, z1, z2, z3, z4⟩ := zero_info (sy := sy) (ρ := ρ) hz
            have hzrun : ∀ w, (zeroValue e).run P w = .ok zv w := fun w => by simp [zeroValue, run_info z1, z2]
            have hzs : zv.cells.size = es := by rw [← Array.length_toList, (cellsOf_rel z4 z3).length]; exact hzl
            simp only [cond_true]
            unfold appendF
            simp only
            generalize (ev cx y).f env loc = vy at *
            generalize (ev cx x).f env loc = vx at *
            generalize hr : xCells es vy st _ = r
            rcases xCells_rel (P := P) hy hw hr with ⟨k, rfl⟩ | ⟨n, new, new', rfl, rn, hnl, hlen, hnew, _⟩
            · exact trivial
            · cases vx <;> try exact trivial
              · rename_i b ofs l cp q
                have hx' := hx
                simp only [VRel] at hx
                obtain ⟨i, hi, e1⟩ := hx
                simp only [appendTo]
                generalize hr2 : xCells es (.slice b ofs l cp q) st _ = r2
                rcases xCells_rel (P := P) hx' hw hr2 with ⟨k, rfl⟩ | ⟨m, old, old', rfl, ro, hol, hlo, hold, hcell⟩
                · exact trivial
                · have hml : m = l := by
                    rw [e1] at hlo
                    simp [Builtin.lenOf] at hlo
                    exact hlo.symm
                  subst hml
                  simp only [forceN_eq]
                  have hcell' := fun c e fz h => hcell _ _ _ e1 c e fz h
                  simp only at hcell'
                  rw [e1] at hold
                  cases hle : Nat.ble (Nat.add m n) cp with
                  | true =>
                    have hle' : m + n ≤ cp := by simpa [Nat.ble_eq] using hle
                    have hcap : m + n ≤ (if q = true then cp + i.ext else cp) := by split <;> omega
                    simp only [cond_true]
                    cases hn0 : Nat.beq n 0 with
                    | true =>
                      have : n = 0 := Nat.eq_of_beq_eq_true hn0
                      subst this
                      simp only [cond_true]
                      have hnil : new' = [] := List.length_eq_zero_iff.1 (by rw [hnl, Nat.zero_mul])
                      subst hnil
                      refine pure_val (v' := .slice (some ⟨i.blk, ofs + i.sh, none⟩) m (if q = true then cp + i.ext else cp)) ?_ hw hd (by simp only [VRel]; exact ⟨i, hi, rfl⟩)
                      have hrun := run_append_room (P := P) (ty := o.type) (x := a.eval y) (base := some ⟨i.blk, ofs + i.sh, none⟩) (sLen := m) (sCap := if q = true then cp + i.ext else cp) (w := w) (w' := w)
                        hu h2 hes hlen (hnew _ rfl) hcap (by simp [storeCells])
                      rw [append_call ho hc ha ht, e1, hrun]
                      rfl
                    | false =>
                      simp only [cond_false]
                      generalize hr3 : storeAt new b (Nat.add ofs (Nat.mul m es)) st _ = r3
                      rcases storeAt_rel (P := P) rn hw hi hr3 with ⟨k, rfl⟩ | ⟨st1, w1, rfl, hd1, hw1, hrun3⟩
                      · exact trivial
                      · refine ok_val (v' := .slice (some ⟨i.blk, ofs + i.sh, none⟩) (m + n) (if q = true then cp + i.ext else cp)) (w' := w1) ?_ (Ren.le_refl _) (by simp only [VRel]; exact ⟨i, hi, rfl⟩) hw1 (by rw [hd1]; exact hd)
                        have hrun := run_append_room (P := P) (ty := o.type) (x := a.eval y) (base := some ⟨i.blk, ofs + i.sh, none⟩) (sLen := m) (sCap := if q = true then cp + i.ext else cp) (w := w) (w' := w1)
                          hu h2 hes hlen (hnew _ rfl) hcap (by
                            simp only [addr_add]
                            rw [show ofs + i.sh + m * es = ofs + m * es + i.sh by omega]
                            exact hrun3)
                        rw [append_call ho hc ha ht, e1, hrun]
                        rfl
                  | false =>
                    have hgt : cp < m + n := by
                      rcases Nat.lt_or_ge cp (m + n) with h | h
                      · exact h
                      · have : Nat.ble (Nat.add m n) cp = true := by simpa [Nat.ble_eq] using h
                        rw [this] at hle; cases hle
                    simp only [cond_false]
                    cases hroom : roomFor (Nat.add m n) by_ with
                    | false => exact trivial
                    | true =>
                      simp only [cond_true]
                      cases q with
                      | true =>
                        simp only [if_true] at e1 hold
                        exact appendOpen_ok ho hc ha ht hu h2 hes hby hzrun hzs hi e1 hlen hnew hnl hold hol hcell' hgt hroom ro rn hd hw
                      | false =>
                        simp only [Bool.false_eq_true, if_false] at e1 hold
                        exact grow_ok ho hc ha ht hu h2 hes hby hzrun hzs e1 hlen hnew hold hgt hroom ro rn ⟨fun _ h => Option.some.inj h, rfl⟩ hd hw
              · simp only [VRel] at hx
                simp only
                cases hn0 : Nat.beq n 0 with
                | true =>
                  have : n = 0 := Nat.eq_of_beq_eq_true hn0
                  subst this
                  simp only [cond_true]
                  refine pure_val (v' := .slice none 0 0) ?_ hw hd (by simp only [VRel])
                  have hrun := run_append_room (P := P) (ty := o.type) (x := a.eval y) (base := none) (sLen := 0) (sCap := 0) (w := w) (w' := w) hu h2 hes hlen (hnew _ rfl) (by omega) rfl
                  rw [append_call ho hc ha ht, hx, hrun]
                  rfl
                | false =>
                  have hnz : n ≠ 0 := fun h => by subst h; cases hn0
                  simp only [cond_false]
                  cases hroom : roomFor n by_ with
                  | false => exact trivial
                  | true =>
                    simp only [cond_true]
                    have := grow_ok (fr := 0) (old := []) (old' := []) (n := n) (sLen := 0) ho hc ha ht hu h2 hes hby hzrun hzs hx hlen hnew (fun w1 _ => by simp [Builtin.firstCells]) (by omega) (inf := ⟨some e, true, false, true⟩) (by rw [Nat.zero_add]; exact hroom) VRels.nil rn ⟨fun _ h => Option.some.inj h, rfl⟩ hd hw
                    rw [Nat.zero_add] at this
                    exact this
end
end Go.Proofs.YtbmbjaogcmokoaaGreatDoorX
