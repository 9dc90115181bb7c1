/- Operations: append (2), calls; all of them. Library functions without a body. Operations: fields of values, interface values, closures, panics, the greater of two. Operations: maps. Operations: what strings.Builder does with its bytes. -/
import Derived.Test.YtbmbjaogcmokoaaGreatDoorX3
import Derived.Laws.Externs
import Derived.Lib.Bytealg
import Derived.KernelRfl
import Derived.Laws.Small
import Derived.Laws.StructEq
import Derived.Lib.UnsafeStr
namespace Go.Proofs.YtbmbjaogcmokoaaGreatDoorX
open Go Go.RowKit
set_option linter.unusedVariables false

section
variable {sy : Sy} {G : Nat} {B : Kp} {w0 : World} {P : Program} {ρ ρ' : Ren} {cx : Cx} {env : List CV} {loc : Loc} {a : Act} {st st' : St} {w w' : World} {o : Oper} {call : Caller}

/-- append to a row whose capacity is not known: in its place, or in a new one -/
theorem appendOpen_ok {c : Call} {x y : Operand} {t t2 e n es by_ : Nat} {z : Value} {b ofs sLen cp : Nat} {i : BI} {old new : List CV} {old' new' : List Value}
    (ho : o.op = .call c) (hc : c.callee = .builtin .append) (ha : c.args.toList = [x, y]) (ht : c.argTypes.toList = [t, t2])
    (hu : P.underlying t = some (.slice e)) (h2 : noInt P t2 = true) (hes : szOf P e = some es) (hby : byOf P e = some by_) (hz : ∀ w, (zeroValue e).run P w = .ok z w) (hzs : z.cells.size = es)
    (hi : ρ b = some i) (hx : a.eval x = .slice (some ⟨i.blk, ofs + i.sh, none⟩) sLen (cp + i.ext)) (hlen : (Builtin.lenOf (a.eval y)).run P w = .ok n w)
    (hnew : ∀ w1 : World, w1.heap = w.heap → (Builtin.firstCells es n (a.eval y)).run P w1 = .ok new'.toArray w1) (hnl : new'.length = n * es)
    (hold : ∀ w1 : World, w1.heap = w.heap → (Builtin.firstCells es sLen (.slice (some ⟨i.blk, ofs + i.sh, none⟩) sLen (cp + i.ext))).run P w1 = .ok old'.toArray w1) (hol : old'.length = sLen * es)
    (hcell : ∀ c e fz, w.heap[i.blk]? = some (.cells c e fz) → ∀ k : Nat, k < old'.length → c[ofs + i.sh + k]? = old'[k]?)
    (hlt : cp < sLen + n) (hroom : roomFor (sLen + n) by_ = true) (ro : VRels sy ρ old old') (rn : VRels sy ρ new new')
    (hd : DRel sy ρ st.dfs a.defers) (hw : WRel sy G B w0 ρ st w) :
    OpRes sy G B w0 P ρ a o w (appendOpen e es old new (sLen + n) b ofs sLen cp st) := by
  unfold appendOpen
  cases hg : st.heap.get b with
  | none => exact trivial
  | some ob =>
    simp only
    cases ob <;> try exact trivial
    rename_i cells n' es' fr inf
    simp only
    have htf : ∀ t, tyIf inf.ty e = some t → inf.ty = some t ∧ e = t := fun t h => by
      unfold tyIf at h
      cases hty : inf.ty with
      | none => rw [hty] at h; cases h
      | some u =>
        rw [hty] at h
        cases hb : Nat.beq u e with
        | false => simp only [hb, cond_false] at h; cases h
        | true =>
          have : u = e := Nat.eq_of_beq_eq_true hb
          simp only [hb, cond_true, Option.some.injEq] at h
          exact ⟨by rw [this, h], h⟩
    cases hcd : (Nat.beq es es' && (Nat.beq (Nat.add ofs (Nat.mul cp es)) n' && (Nat.ble fr (Nat.add ofs (Nat.mul sLen es)) && new.all oneCell))) with
    | false => exact trivial
    | true =>
      simp only [Bool.and_eq_true, Nat.beq_eq, Nat.ble_eq] at hcd
      obtain ⟨rfl, q2, q3, q4⟩ := hcd
      have q2' : ofs + cp * es = n' := q2
      have q3' : fr ≤ ofs + sLen * es := q3
      simp only [cond_true]
      obtain ⟨h, nx, d⟩ := st
      simp only [setObj_eq]
      obtain ⟨i', c0, e0, fz, k1, k2, k3, k4, k5, k6, k7⟩ := hw.obj b _ hg
      rw [hi] at k1; cases k1
      have hlt0 : i.blk < w.heap.size := (Array.getElem?_eq_some_iff.1 k4).1
      have hdead : WRel sy G B w0 ρ ⟨T.set h .dead b, nx, d⟩ w :=
        hw.update hg rfl hi k2 (Kept.refl _ _) (fun _ _ => rfl) trivial
      by_cases hin : sLen + n ≤ cp + i.ext
      · -- in its place
        have hvl := rn.length
        have hvo := ro.length
        have hmul : (sLen + n) * es ≤ (cp + i.ext) * es := Nat.mul_le_mul_right _ hin
        rw [Nat.add_mul, Nat.add_mul] at hmul
        have hfz : ∀ j, j < new'.length → ¬ (fz.1 ≤ ofs + i.sh + sLen * es + 0 + j ∧ ofs + i.sh + sLen * es + 0 + j < fz.2) := fun j hj => by
          have := k7 (ofs + sLen * es + j) (by omega) (by omega)
          rw [show ofs + i.sh + sLen * es + 0 + j = ofs + sLen * es + j + i.sh by omega]; exact this
        obtain ⟨c', z1, z2, z3⟩ := run_storeCells (P := P) new' w i.blk (ofs + i.sh + sLen * es) 0 c0 e0 fz k4 (by omega) hfz (all_one rn q4)
        have hrun := run_append_room (P := P) (ty := o.type) (x := a.eval y) (base := some ⟨i.blk, ofs + i.sh, none⟩) (sLen := sLen) (sCap := cp + i.ext) (w := w) (w' := setRow w i.blk c' e0 fz)
          hu h2 hes hlen (hnew _ rfl) hin (by simpa [addr_add] using z2)
        unfold appendNew
        rw [rowF_eq]
        have hbel : Kept B w (setRow w i.blk c' e0 fz) := ⟨rfl, rfl, rfl, by rw [setRow_size]; exact Nat.le_refl _, fun k hk => setRow_heap_ne (by intro e; rw [e] at hk; exact k2 hk) _ _ _⟩
        have hle : ρ.le (ρ.put nx ⟨i.blk, i.sh + ofs, cp + i.ext - (sLen + n), i.es⟩) := Ren.le_put hw.fresh
        refine ok_val (ρ' := ρ.put nx ⟨i.blk, i.sh + ofs, cp + i.ext - (sLen + n), i.es⟩) (v' := .slice (some ⟨i.blk, ofs + i.sh, none⟩) (sLen + n) (cp + i.ext)) (w' := setRow w i.blk c' e0 fz) ?_ hle ?_ ?_ hd
        · rw [append_call ho hc ha ht, hx, hrun]
          rfl
        · simp only [VRel]
          refine ⟨_, Ren.put_same _ _ _, ?_⟩
          simp only [if_true, Nat.zero_add]
          rw [show sLen + n + (cp + i.ext - (sLen + n)) = cp + i.ext by omega, Nat.add_comm i.sh]
        · -- the state
          have hnr : ORel sy B (ρ.put nx ⟨i.blk, i.sh + ofs, cp + i.ext - (sLen + n), i.es⟩) (setRow w i.blk c' e0 fz) nx (.row (rowOf (old ++ new) 0 .nil) (old ++ new).length es (Nat.sub fr ofs) ⟨tyIf inf.ty e, inf.z && Nat.beq ofs 0, false, inf.low⟩) := by
            refine ⟨_, c', e0, fz, Ren.put_same _ _ _, k2, ⟨k3.1, fun t h => k3.2.1 t (htf t h).1, fun h => (by rw [Bool.and_eq_true] at h; have h1 := k3.2.2.1 h.1; have h2 := Nat.eq_of_beq_eq_true h.2; show i.sh + ofs = 0; omega), fun h => (by cases h), fun h => (k3.2.2.2.2 h).imp id fun h => (by show fz.2 ≤ Nat.sub fr ofs + (i.sh + ofs); have : Nat.sub fr ofs = fr - ofs := rfl; omega)⟩, setRow_heap_same hlt0 _ _ _, ?_, fun j v hj => ?_, fun j hj1 hj2 => ?_⟩
            · simp only [List.length_append]
              have e1 : (cp + i.ext - (sLen + n)) * es = (cp * es + i.ext * es) - (sLen * es + n * es) := by rw [Nat.sub_mul, Nat.add_mul, Nat.add_mul]
              rw [e1, z1]
              omega
            · rw [rowOf_get] at hj
              by_cases hjj : 0 ≤ j ∧ j < 0 + (old ++ new).length
              · rw [if_pos hjj] at hj
                have hjl : j < (old ++ new).length := by omega
                refine ⟨hjl, ?_⟩
                simp only [Nat.sub_zero] at hj
                show ∃ v', c'[j + (i.sh + ofs)]? = some v' ∧ _
                rw [z3]
                by_cases hjo : j < old.length
                · rw [List.getElem?_append_left hjo] at hj
                  obtain ⟨v', r1, r2⟩ := ro.get _ _ hj
                  refine ⟨v', ?_, r2.mono sy hle⟩
                  rw [if_neg (by omega)]
                  -- the old cells, as they were read
                  rw [show j + (i.sh + ofs) = ofs + i.sh + j by omega, hcell c0 e0 fz k4 j (by omega)]
                  exact r1
                · rw [List.getElem?_append_right (by omega)] at hj
                  obtain ⟨v', r1, r2⟩ := rn.get _ _ hj
                  refine ⟨v', ?_, r2.mono sy hle⟩
                  simp only [List.length_append] at hjl
                  rw [if_pos (by omega), show j + (i.sh + ofs) - (ofs + i.sh + sLen * es + 0) = j - old.length by omega]
                  exact r1
              · rw [if_neg hjj, T.get_nil] at hj; cases hj
            · have hj1' : fr - ofs ≤ j := hj1
              have := k7 (ofs + j) (by omega) (by
                simp only [List.length_append] at hj2
                have e1 : (cp + i.ext - (sLen + n)) * es = (cp * es + i.ext * es) - (sLen * es + n * es) := by rw [Nat.sub_mul, Nat.add_mul, Nat.add_mul]
                rw [e1] at hj2
                omega)
              rw [show j + (i.sh + ofs) = ofs + j + i.sh by omega]; exact this
          exact {
            below := hw.below.trans hbel
            base := fun k hk => by rw [setRow_size]; exact hw.base k hk
            ro := hw.ro
            gone := fun b' hb' => by
              obtain ⟨q1, q2⟩ := hw.gone b' hb'
              simp only at q1
              refine ⟨by simp only; omega, ?_⟩
              unfold Ren.put
              rw [if_neg (by omega)]
              exact q2
            glob := fun g hgl => by obtain ⟨i', h1, h2⟩ := hw.glob g hgl; exact ⟨i', hle _ _ h1, h2⟩
            dom := fun b' i' hb' => by
              unfold Ren.put at hb'
              by_cases e : b' = nx
              · subst e; exact Nat.lt_succ_self _
              · rw [if_neg e] at hb'; have := hw.dom _ _ hb'; simp only at this ⊢; omega
            obj := fun x' ox hx' => by
              simp only [T.get_set] at hx'
              by_cases e : x' = nx
              · subst e; rw [if_pos rfl] at hx'; cases hx'; exact hnr
              · rw [if_neg e] at hx'
                by_cases e2 : x' = b
                · subst e2; rw [if_pos rfl] at hx'; cases hx'; trivial
                · rw [if_neg e2] at hx'
                  have hox := hw.obj x' ox hx'
                  have : ORel sy B ρ (setRow w i.blk c' e0 fz) x' ox := by
                    by_cases hown : owned ox = true
                    · exact hox.of_block fun i' hi' => setRow_heap_ne (fun e3 => e2 (hw.inj x' b ox _ i' i hx' hown hg rfl hi' hi e3)) _ _ _
                    · cases ox <;> simp [owned] at hown
                      · obtain ⟨i', c3, e3, fz3, h1, h2, h3, h4⟩ := hox
                        exact ⟨i', c3, e3, fz3, h1, h2, by rw [setRow_heap_ne (by intro e; rw [e] at h2; exact k2 (hw.ro _ h2))]; exact h3, h4⟩
                      · trivial
                  exact this.mono hle
            inj := fun b1 b2 o1 o2 i1 i2 h1 g1 h2' g2 r1 r2 er => by
              simp only [T.get_set] at h1 h2'
              unfold Ren.put at r1 r2
              by_cases e1 : b1 = nx
              · by_cases e2 : b2 = nx
                · rw [e1, e2]
                · rw [if_neg e2] at h2' r2
                  rw [if_pos e1] at r1
                  cases r1
                  by_cases e3 : b2 = b
                  · subst e3; rw [if_pos rfl] at h2'; cases h2'; cases g2
                  · rw [if_neg e3] at h2'
                    exact absurd (hw.inj b b2 _ o2 i i2 hg rfl h2' g2 hi r2 er) (Ne.symm e3)
              · rw [if_neg e1] at h1 r1
                by_cases e4 : b1 = b
                · subst e4; rw [if_pos rfl] at h1; cases h1; cases g1
                · rw [if_neg e4] at h1
                  by_cases e2 : b2 = nx
                  · rw [if_pos e2] at r2
                    cases r2
                    exact absurd (hw.inj b1 b o1 _ i1 i h1 g1 hg rfl r1 hi er) e4
                  · rw [if_neg e2] at h2' r2
                    by_cases e3 : b2 = b
                    · subst e3; rw [if_pos rfl] at h2'; cases h2'; cases g2
                    · rw [if_neg e3] at h2'
                      exact hw.inj b1 b2 o1 o2 i1 i2 h1 g1 h2' g2 r1 r2 er }
      · -- a new row
        exact grow_ok ho hc ha ht hu h2 hes hby hz hzs hx hlen hnew hold (by omega) hroom ro rn ⟨fun t h => (htf t h).2, rfl⟩ hd hdead

theorem append_ok {c : Call} {x y : Operand} {t t2 : TypeId} (ho : o.op = .call c) (hc : c.callee = .builtin .append) (ha : c.args.toList = [x, y]) (ht : c.argTypes.toList = [t, t2])
    (hs : SR sy G cx ρ env loc a) (hd : DRel sy ρ st.dfs a.defers) (hw : WRel sy G B w0 ρ st w) :
    OpRes sy G B w0 P ρ a o w ((oAppend P t t2 (ev cx x) (ev cx y)).f call env loc st) := by
  have hx := evRel hs hw x
  have hy := evRel hs hw y
  unfold oAppend
  cases he : elemOfSlice P t with
  | none => exact trivial
  | some e =>
    have hu := elemOfSlice_spec he
    cases hes : szOf P e with
    | none => simp only [hes]; exact trivial
    | some es =>
      cases hby : byOf P e with
      | none => simp only [hes, hby]; exact trivial
      | some by_ =>
        cases hz : zeroOf P e with
        | none => simp only [hes, hby, hz]; exact trivial
        | some z =>
          simp only [hes, hby, hz]
          cases hcd : (Nat.beq (len (cellsOf z)) es && noInt P t2) with
          | false => exact trivial
          | true =>
            simp only [Bool.and_eq_true, Nat.beq_eq, len_eq] at hcd
            obtain ⟨hzl, h2⟩ := hcd
            obtain ⟨zi, zv, z1, z2, z3, z4⟩ := zero_info (sy := sy) (ρ := ρ) hz
            have hzrun : ∀ w, (zeroValue e).run P w = .ok zv w := fun w => by simp [zeroValue, run_info z1, z2]
            have hzs : zv.cells.size = es := by rw [← Array.length_toList, (cellsOf_rel z4 z3).length]; exact hzl
            simp only [cond_true]
            unfold appendF
            simp only
            generalize (ev cx y).f env loc = vy at *
            generalize (ev cx x).f env loc = vx at *
            generalize hr : xCells es vy st _ = r
            rcases xCells_rel (P := P) hy hw hr with ⟨k, rfl⟩ | ⟨n, new, new', rfl, rn, hnl, hlen, hnew, _⟩
            · exact trivial
            · cases vx <;> try exact trivial
              · rename_i b ofs l cp q
                have hx' := hx
                simp only [VRel] at hx
                obtain ⟨i, hi, e1⟩ := hx
                simp only [appendTo]
                generalize hr2 : xCells es (.slice b ofs l cp q) st _ = r2
                rcases xCells_rel (P := P) hx' hw hr2 with ⟨k, rfl⟩ | ⟨m, old, old', rfl, ro, hol, hlo, hold, hcell⟩
                · exact trivial
                · have hml : m = l := by
                    rw [e1] at hlo
                    simp [Builtin.lenOf] at hlo
                    exact hlo.symm
                  subst hml
                  simp only [forceN_eq]
                  have hcell' := fun c e fz h => hcell _ _ _ e1 c e fz h
                  simp only at hcell'
                  rw [e1] at hold
                  cases hle : Nat.ble (Nat.add m n) cp with
                  | true =>
                    have hle' : m + n ≤ cp := by simpa [Nat.ble_eq] using hle
                    have hcap : m + n ≤ (if q = true then cp + i.ext else cp) := by split <;> omega
                    simp only [cond_true]
                    cases hn0 : Nat.beq n 0 with
                    | true =>
                      have : n = 0 := Nat.eq_of_beq_eq_true hn0
                      subst this
                      simp only [cond_true]
                      have hnil : new' = [] := List.length_eq_zero_iff.1 (by rw [hnl, Nat.zero_mul])
                      subst hnil
                      refine pure_val (v' := .slice (some ⟨i.blk, ofs + i.sh, none⟩) m (if q = true then cp + i.ext else cp)) ?_ hw hd (by simp only [VRel]; exact ⟨i, hi, rfl⟩)
                      have hrun := run_append_room (P := P) (ty := o.type) (x := a.eval y) (base := some ⟨i.blk, ofs + i.sh, none⟩) (sLen := m) (sCap := if q = true then cp + i.ext else cp) (w := w) (w' := w)
                        hu h2 hes hlen (hnew _ rfl) hcap (by simp [storeCells])
                      rw [append_call ho hc ha ht, e1, hrun]
                      rfl
                    | false =>
                      simp only [cond_false]
                      generalize hr3 : storeAt new b (Nat.add ofs (Nat.mul m es)) st _ = r3
                      rcases storeAt_rel (P := P) rn hw hi hr3 with ⟨k, rfl⟩ | ⟨st1, w1, rfl, hd1, hw1, hrun3⟩
                      · exact trivial
                      · refine ok_val (v' := .slice (some ⟨i.blk, ofs + i.sh, none⟩) (m + n) (if q = true then cp + i.ext else cp)) (w' := w1) ?_ (Ren.le_refl _) (by simp only [VRel]; exact ⟨i, hi, rfl⟩) hw1 (by rw [hd1]; exact hd)
                        have hrun := run_append_room (P := P) (ty := o.type) (x := a.eval y) (base := some ⟨i.blk, ofs + i.sh, none⟩) (sLen := m) (sCap := if q = true then cp + i.ext else cp) (w := w) (w' := w1)
                          hu h2 hes hlen (hnew _ rfl) hcap (by
                            simp only [addr_add]
                            rw [show ofs + i.sh + m * es = ofs + m * es + i.sh by omega]
                            exact hrun3)
                        rw [append_call ho hc ha ht, e1, hrun]
                        rfl
                  | false =>
                    have hgt : cp < m + n := by
                      rcases Nat.lt_or_ge cp (m + n) with h | h
                      · exact h
                      · have : Nat.ble (Nat.add m n) cp = true := by simpa [Nat.ble_eq] using h
                        rw [this] at hle; cases hle
                    simp only [cond_false]
                    cases hroom : roomFor (Nat.add m n) by_ with
                    | false => exact trivial
                    | true =>
                      simp only [cond_true]
                      cases q with
                      | true =>
                        simp only [if_true] at e1 hold
                        exact appendOpen_ok ho hc ha ht hu h2 hes hby hzrun hzs hi e1 hlen hnew hnl hold hol hcell' hgt hroom ro rn hd hw
                      | false =>
                        simp only [Bool.false_eq_true, if_false] at e1 hold
                        exact grow_ok ho hc ha ht hu h2 hes hby hzrun hzs e1 hlen hnew hold hgt hroom ro rn ⟨fun _ h => Option.some.inj h, rfl⟩ hd hw
              · simp only [VRel] at hx
                simp only
                cases hn0 : Nat.beq n 0 with
                | true =>
                  have : n = 0 := Nat.eq_of_beq_eq_true hn0
                  subst this
                  simp only [cond_true]
                  refine pure_val (v' := .slice none 0 0) ?_ hw hd (by simp only [VRel])
                  have hrun := run_append_room (P := P) (ty := o.type) (x := a.eval y) (base := none) (sLen := 0) (sCap := 0) (w := w) (w' := w) hu h2 hes hlen (hnew _ rfl) (by omega) rfl
                  rw [append_call ho hc ha ht, hx, hrun]
                  rfl
                | false =>
                  have hnz : n ≠ 0 := fun h => by subst h; cases hn0
                  simp only [cond_false]
                  cases hroom : roomFor n by_ with
                  | false => exact trivial
                  | true =>
                    simp only [cond_true]
                    have := grow_ok (fr := 0) (old := []) (old' := []) (n := n) (sLen := 0) ho hc ha ht hu h2 hes hby hzrun hzs hx hlen hnew (fun w1 _ => by simp [Builtin.firstCells]) (by omega) (inf := ⟨some e, true, false, true⟩) (by rw [Nat.zero_add]; exact hroom) VRels.nil rn ⟨fun _ h => Option.some.inj h, rfl⟩ hd hw
                    rw [Nat.zero_add] at this
                    exact this
end
end Go.Proofs.YtbmbjaogcmokoaaGreatDoorX

namespace Go.Proofs.YtbmbjaogcmokoaaGreatDoorX
open Go Go.RowKit
set_option linter.unusedVariables false

section
variable {sy : Sy} {G : Nat} {B : Kp} {w0 : World} {P : Program} {ρ ρ' : Ren} {cx : Cx} {env : List CV} {loc : Loc} {a : Act} {st st' : St} {w w' : World} {o : Oper} {call : Caller}

theorem findName_spec (s : String) : ∀ (l : List (String × Nat)) (n : Nat), findName s l = n → n ≠ 0 → (s, n) ∈ l
  | [], n, h, hn => absurd h.symm hn
  | (t, m) :: r, n, h, hn => by
    unfold findName at h
    simp only at h
    cases hs : s == t with
    | true =>
      rw [hs] at h
      simp only [cond_true] at h
      have : s = t := by simpa using hs
      subst this; subst h
      simp
    | false =>
      rw [hs] at h
      exact List.mem_cons_of_mem _ (findName_spec s r n h hn)
theorem externId_spec {g n : Nat} (h : externId P g = n) (hn : n ≠ 0) : ∃ fn, P.funcs[g]? = some fn ∧ fn.body.isNone = true ∧ fn.origin = "" ∧ (fn.name, n) ∈ externNames := by
  unfold externId at h
  cases hf : P.funcs[g]? with
  | none => rw [hf] at h; exact absurd h.symm hn
  | some fn =>
    rw [hf] at h
    simp only at h
    cases hb : fn.body with
    | some c => rw [hb] at h; exact absurd h.symm hn
    | none =>
      rw [hb] at h
      simp only at h
      cases ho : fn.origin == "" with
      | false => rw [ho] at h; exact absurd h.symm hn
      | true =>
        rw [ho] at h
        exact ⟨fn, rfl, by rw [hb]; rfl, by simpa using ho, findName_spec _ _ _ h hn⟩

theorem next_IndexByteString : Extern.allNextRows.lookup "internal/bytealg.IndexByteString" = none := by kernel_rfl
theorem next_NoEscape : Extern.allNextRows.lookup "internal/abi.NoEscape" = none := by kernel_rfl
theorem gen_NoEscape : Extern.allGenericRows.lookup "internal/abi.NoEscape" = none := by kernel_rfl
theorem typed_NoEscape : Extern.allTypedRows.lookup "internal/abi.NoEscape" = none := by kernel_rfl
theorem row_NoEscape : Extern.allRows.lookup "internal/abi.NoEscape" = some Extern.AbiNoEscape.same := by kernel_rfl
theorem next_none : Extern.allNextRows.lookup "" = none := by kernel_rfl
theorem gen_IndexByteString : Extern.allGenericRows.lookup "internal/bytealg.IndexByteString" = none := by kernel_rfl
theorem typed_IndexByteString : Extern.allTypedRows.lookup "internal/bytealg.IndexByteString" = none := by kernel_rfl
theorem row_IndexByteString : Extern.allRows.lookup "internal/bytealg.IndexByteString" = some Extern.BytealgIndexByte.indexByte := by kernel_rfl

theorem idxByte_eq (c : Nat) (hc : c < 256) : ∀ (l n i : Nat), idxByte c l n i = if Lib.indexByte (bytesL l n) c.toUInt8 = -1 then -1 else Lib.indexByte (bytesL l n) c.toUInt8 + i
  | 0, n, i => by
    have : idxByte c 0 n i = -1 := rfl
    rw [this]
    simp [bytesL, Lib.indexByte]
  | l + 1, n, i => by
    have e : idxByte c (l + 1) n i = bif Nat.beq (Nat.mod n 256) c then .ofNat i else idxByte c l (Nat.div n 256) (Nat.succ i) := rfl
    rw [e, bytesL_succ]
    unfold Lib.indexByte
    have hb : (UInt8.ofNat n == c.toUInt8) = Nat.beq (Nat.mod n 256) c := by
      apply Bool.eq_iff_iff.2
      rw [beq_iff_eq, Nat.beq_eq, ← UInt8.toNat_inj]
      simp [UInt8.toNat_ofNat']
      rw [Nat.mod_eq_of_lt hc]
      rfl
    rw [hb]
    cases h : Nat.beq (Nat.mod n 256) c with
    | true => simp
    | false =>
      simp only [cond_false, Bool.false_eq_true, if_false]
      rw [idxByte_eq c hc l (Nat.div n 256) (Nat.succ i)]
      have hge := Lib.indexByte_ge (bytesL l (n / 256)) c.toUInt8
      show (if Lib.indexByte (bytesL l (n / 256)) c.toUInt8 = -1 then _ else Lib.indexByte (bytesL l (n / 256)) c.toUInt8 + ((i + 1 : Nat) : Int)) = _
      generalize Lib.indexByte (bytesL l (n / 256)) c.toUInt8 = q at *
      by_cases hq : q = -1
      · simp [hq]
      · have hq' : (q == -1) = false := by simpa using hq
        rw [hq']
        simp only [Bool.false_eq_true, if_false, if_neg hq]
        rw [if_neg (by omega)]
        omega

theorem next_LoadPointer : Extern.allNextRows.lookup "sync/atomic.LoadPointer" = none := by kernel_rfl
theorem gen_LoadPointer : Extern.allGenericRows.lookup "sync/atomic.LoadPointer" = none := by kernel_rfl
theorem typed_LoadPointer : Extern.allTypedRows.lookup "sync/atomic.LoadPointer" = none := by kernel_rfl
theorem row_LoadPointer : Extern.allRows.lookup "sync/atomic.LoadPointer" = some (Extern.Atomic.loadT .ptr) := by kernel_rfl
theorem next_StorePointer : Extern.allNextRows.lookup "sync/atomic.StorePointer" = none := by kernel_rfl
theorem gen_StorePointer : Extern.allGenericRows.lookup "sync/atomic.StorePointer" = none := by kernel_rfl
theorem typed_StorePointer : Extern.allTypedRows.lookup "sync/atomic.StorePointer" = none := by kernel_rfl
theorem row_StorePointer : Extern.allRows.lookup "sync/atomic.StorePointer" = some (Extern.Atomic.storeT) := by kernel_rfl
theorem next_Disable : Extern.allNextRows.lookup "internal/race.Disable" = none := by kernel_rfl
theorem gen_Disable : Extern.allGenericRows.lookup "internal/race.Disable" = none := by kernel_rfl
theorem typed_Disable : Extern.allTypedRows.lookup "internal/race.Disable" = none := by kernel_rfl
theorem row_Disable : Extern.allRows.lookup "internal/race.Disable" = some (fun _ => do mark .disable; pure Extern.Race.none_) := by kernel_rfl
theorem next_Enable : Extern.allNextRows.lookup "internal/race.Enable" = none := by kernel_rfl
theorem gen_Enable : Extern.allGenericRows.lookup "internal/race.Enable" = none := by kernel_rfl
theorem typed_Enable : Extern.allTypedRows.lookup "internal/race.Enable" = none := by kernel_rfl
theorem row_Enable : Extern.allRows.lookup "internal/race.Enable" = some (fun _ => do mark .enable; pure Extern.Race.none_) := by kernel_rfl
theorem next_Acquire : Extern.allNextRows.lookup "internal/race.Acquire" = none := by kernel_rfl
theorem gen_Acquire : Extern.allGenericRows.lookup "internal/race.Acquire" = none := by kernel_rfl
theorem typed_Acquire : Extern.allTypedRows.lookup "internal/race.Acquire" = none := by kernel_rfl
theorem row_Acquire : Extern.allRows.lookup "internal/race.Acquire" = some (Extern.Race.marked .acquire) := by kernel_rfl
theorem next_ReleaseMerge : Extern.allNextRows.lookup "internal/race.ReleaseMerge" = none := by kernel_rfl
theorem gen_ReleaseMerge : Extern.allGenericRows.lookup "internal/race.ReleaseMerge" = none := by kernel_rfl
theorem typed_ReleaseMerge : Extern.allTypedRows.lookup "internal/race.ReleaseMerge" = none := by kernel_rfl
theorem row_ReleaseMerge : Extern.allRows.lookup "internal/race.ReleaseMerge" = some (Extern.Race.marked .releaseMerge) := by kernel_rfl
theorem next_AddInt32 : Extern.allNextRows.lookup "sync/atomic.AddInt32" = none := by kernel_rfl
theorem gen_AddInt32 : Extern.allGenericRows.lookup "sync/atomic.AddInt32" = none := by kernel_rfl
theorem typed_AddInt32 : Extern.allTypedRows.lookup "sync/atomic.AddInt32" = none := by kernel_rfl
theorem row_AddInt32 : Extern.allRows.lookup "sync/atomic.AddInt32" = some (Extern.Atomic.update (Op.intArith .add) .i32 true) := by kernel_rfl
theorem next_CasInt32 : Extern.allNextRows.lookup "sync/atomic.CompareAndSwapInt32" = none := by kernel_rfl
theorem gen_CasInt32 : Extern.allGenericRows.lookup "sync/atomic.CompareAndSwapInt32" = none := by kernel_rfl
theorem typed_CasInt32 : Extern.allTypedRows.lookup "sync/atomic.CompareAndSwapInt32" = none := by kernel_rfl
theorem row_CasInt32 : Extern.allRows.lookup "sync/atomic.CompareAndSwapInt32" = some (Extern.Atomic.casT (.int .i32)) := by kernel_rfl

theorem loadT_one (t : Extern.Atomic.T) (x : Value) : Extern.Atomic.loadT t #[x] = (do Extern.Atomic.read t (← asAddr x)) := rfl
theorem storeT_two (x y : Value) : Extern.Atomic.storeT #[x, y] = (do store (← asAddr x) y .atomic; pure Extern.Atomic.none_) := rfl
theorem update_two (op : IntKind → Int → Int → Sem Value) (k : IntKind) (rn : Bool) (x y : Value) : Extern.Atomic.update op k rn #[x, y] = (do
    let a ← asAddr x
    let old ← Extern.Atomic.read (.int k) a
    let new ← op k (← asInt old) (← asInt y)
    store a new .atomic
    pure (if rn then new else old)) := rfl
theorem casT_three (x y z : Value) : Extern.Atomic.casT (.int .i32) #[x, y, z] = (do
    let a ← asAddr x
    if ← Extern.Atomic.touchesFrozen a then unsupported (.unsafePointer "a write to bytes that a string shares")
    let eq ← match Extern.Atomic.T.int .i32, ← Extern.Atomic.read (.int .i32) a, y with
      | _, .int _ x, .int _ y => pure (x == y)
      | .ptr, .pointer x, .pointer y => samePointer x y
      | .int _, .pointer (some _), .int _ 0 | .int _, .int _ 0, .pointer (some _) => pure false
      | .int _, .pointer (some _), _ | .int _, _, .pointer (some _) => unsupported .addressObserved
      | _, _, _ => stuck "atomic.CompareAndSwap: old is no T"
    if eq then store a z .atomic
    pure (.bool eq)) := rfl
/-- a cell that is read -/
theorem cellAt_rel (hw : WRel sy G B w0 ρ st w) {b o : Nat} {i : BI} (hi : ρ b = some i) {K : CV → RV} {r : RV} (hr : cellAt b o st K = r) :
    (∃ k, r = .err k) ∨ ∃ v v', K v = r ∧ VRel sy ρ v v' ∧ w.cell? ⟨i.blk, o + i.sh, none⟩ = some v' := by
  unfold cellAt at hr
  cases hc : cellsAt b st with
  | none => rw [hc] at hr; exact .inl ⟨_, hr.symm⟩
  | some cells =>
    rw [hc] at hr
    simp only at hr
    obtain ⟨i', c, e, fz, h1, h2, h3⟩ := cellsAt_rel hw hc
    rw [hi] at h1; cases h1
    cases hg : cells.get o with
    | none => rw [hg] at hr; exact .inl ⟨_, hr.symm⟩
    | some v =>
      rw [hg] at hr
      obtain ⟨v', k1, k2⟩ := h3 _ _ hg
      exact .inr ⟨v, v', hr, k2, by rw [cell_row h2]; exact k1⟩
/-- a cell that is written, in whatever mode -/
theorem store1_rel {v : CV} {v' : Value} {b o : Nat} {i : BI} {K : St → RV} {r : RV} (hv : VRel sy ρ v v') (hw : WRel sy G B w0 ρ st w) (hi : ρ b = some i) (hr : storeAt [v] b o st K = r) :
    (∃ k, r = .err k) ∨ ∃ st' w', K st' = r ∧ st'.dfs = st.dfs ∧ WRel sy G B w0 ρ st' w' ∧ w.frozen? ⟨i.blk, o + i.sh, none⟩ = false ∧ ∀ m, (store ⟨i.blk, o + i.sh, none⟩ v' m).run P w = .ok () w' := by
  have hr0 := hr
  rcases storeAt_rel (P := P) (VRels.cons hv VRels.nil) hw hi hr with h | ⟨st', w', h1, h2, h3, h4⟩
  · exact .inl h
  · -- the cell is there
    unfold storeAt at hr0
    cases hb : st.heap.get b with
    | none => rw [hb] at hr0; exact .inl ⟨_, hr0.symm⟩
    | some x =>
      rw [hb] at hr0
      cases x <;> simp only at hr0 <;> try exact .inl ⟨_, hr0.symm⟩
      rename_i cells m es fr inf
      cases hc : (Nat.ble fr o && (Nat.ble (Nat.add o (len [v])) m && [v].all oneCell)) with
      | false => rw [hc] at hr0; exact .inl ⟨_, hr0.symm⟩
      | true =>
        simp only [Bool.and_eq_true, Nat.ble_eq, len_eq] at hc
        obtain ⟨c1, c2, _⟩ := hc
        have c2' : o + 1 ≤ m := c2
        obtain ⟨i', c, e, fz, k1, _, _, k4, k5, _, k7⟩ := hw.obj b _ hb
        rw [hi] at k1; cases k1
        have hlt : o + i.sh < c.size := by omega
        have hcell : w.cell? ⟨i.blk, o + i.sh, none⟩ = some c[o + i.sh] := by rw [cell_row k4]; simp [hlt]
        have hfz : w.frozen? ⟨i.blk, o + i.sh, none⟩ = false := by
          have := k7 o c1 (by omega)
          simp only [World.frozen?, k4]
          simpa using this
        refine .inr ⟨st', w', h1, h2, h3, hfz, fun m => ?_⟩
        rw [← h4]
        unfold storeCells
        cases v' <;> simp [store, Sem.run, hcell, hfz, storeCells, Addr.add]

theorem extern_row {g : Nat} {fn : Func} {e : Array Value → Sem Value} {args' : Array Value} (hf : P.funcs[g]? = some fn) (hb : fn.body.isNone = true) (ho : fn.origin = "")
    (h1 : Extern.allNextRows.lookup fn.name = none) (h2 : Extern.allGenericRows.lookup fn.name = none) (h3 : Extern.allTypedRows.lookup fn.name = none) (h4 : Extern.allRows.lookup fn.name = some e) (hne : (fn.name == "runtime.NumGoroutine") = false) :
    (callFunc g args').run P w = ((e args').run P w).andThen fun v w' => .ok (.value v) w' := by
  have hn : Extern.findNext fn = none := by
    unfold Extern.findNext
    simp only [ho, h1, next_none]
    rfl
  have he : Extern.find fn = some e := by
    unfold Extern.find
    simp only [h2, h3, h4]
    rfl
  exact run_callFunc_extern hf hne hb hn he _ _

/-- what a library function without a body owes -/
def ExtR (sy : Sy) (G : Nat) (B : Kp) (w0 : World) (P : Program) (ρ : Ren) (st : St) (w : World) (g : Nat) (args' : List Value) (r : RV) : Prop :=
  (∃ k, r = .err k) ∨ ∃ v v' st' w', r = .ok v st' ∧ st'.dfs = st.dfs ∧ VRel sy ρ v v' ∧ WRel sy G B w0 ρ st' w' ∧ (callFunc g args'.toArray).run P w = .ok (.value v') w'
theorem ExtR.same {g : Nat} {args' : List Value} {v : CV} {v' : Value} (hw : WRel sy G B w0 ρ st w) (hv : VRel sy ρ v v') (hrun : (callFunc g args'.toArray).run P w = .ok (.value v') w) : ExtR sy G B w0 P ρ st w g args' (.ok v st) :=
  .inr ⟨v, v', st, w, rfl, rfl, hv, hw, hrun⟩

/-- a library function without a body -/
theorem extern_ok {g : Nat} {args : List CV} {args' : List Value} {r : RV} (hw : WRel sy G B w0 ρ st w) (ha : VRels sy ρ args args') (hr : externF (externId P g) args st = r) : ExtR sy G B w0 P ρ st w g args' r := by
  generalize hid : externId P g = n at hr
  unfold externF at hr
  split at hr
  · obtain ⟨fn, hf, hb, ho, hor⟩ := externId_spec hid (by decide)
    have hname : fn.name = "internal/bytealg.IndexByteString" := by simpa [externNames] using hor
    unfold indexByteF at hr
    cases args with
    | nil => exact .inl ⟨_, hr.symm⟩
    | cons s q =>
      cases s <;> try exact .inl ⟨_, hr.symm⟩
      rename_i l n
      cases q with
      | nil => exact .inl ⟨_, hr.symm⟩
      | cons c q =>
        cases q with
        | cons x y => exact .inl ⟨_, hr.symm⟩
        | nil =>
          cases c <;> try exact .inl ⟨_, hr.symm⟩
          rename_i k v
          cases v with
          | negSucc m => exact .inl ⟨_, hr.symm⟩
          | ofNat m =>
            simp only at hr
            cases hk : decide (k = .u8) && Nat.blt m 256 with
            | false => rw [hk] at hr; exact .inl ⟨_, hr.symm⟩
            | true =>
              rw [hk] at hr
              simp only [cond_true, forceI_eq] at hr
              rw [Bool.and_eq_true] at hk
              have hk1 : k = .u8 := of_decide_eq_true hk.1
              have hk2 : m < 256 := by simpa [Nat.blt_eq] using hk.2
              subst hk1
              simp only [VRels, VRel] at ha
              obtain ⟨y, s, rfl, rfl, y2, s2, rfl, rfl, rfl⟩ := ha
              subst hr
              refine .same (v' := .int .i64 (idxByte m l n 0)) hw (by simp only [VRel]) ?_
              have hn : Extern.findNext fn = none := by
                unfold Extern.findNext
                simp only [hname, ho, next_IndexByteString, next_none]
                rfl
              have he : Extern.find fn = some Extern.BytealgIndexByte.indexByte := by
                unfold Extern.find
                simp only [hname, gen_IndexByteString, typed_IndexByteString, row_IndexByteString]
                rfl
              rw [run_callFunc_extern hf (by rw [hname]; decide) hb hn he, Lib.run_indexByteString]
              simp only [Result.andThen]
              congr 3
              rw [idxByte_eq m hk2]
              have e : (bytesOf l n).data.toList = bytesL l n := by simp [bytesOf]
              rw [e]
              have e2 : (Int.ofNat m).toNat.toUInt8 = m.toUInt8 := rfl
              rw [e2]
              generalize Lib.indexByte (bytesL l n) m.toUInt8 = z
              by_cases hz : z = -1 <;> simp [hz]
  · obtain ⟨fn, hf, hb, ho, hor⟩ := externId_spec hid (by decide)
    have hname : fn.name = "internal/abi.NoEscape" := by simpa [externNames] using hor
    cases args with
    | nil => exact .inl ⟨_, hr.symm⟩
    | cons x q =>
      cases q with
      | cons y z => exact .inl ⟨_, hr.symm⟩
      | nil =>
        simp only [VRels] at ha
        obtain ⟨y, s, rfl, hx, rfl⟩ := ha
        subst hr
        refine .same (v' := y) hw hx ?_
        have hn : Extern.findNext fn = none := by
          unfold Extern.findNext
          simp only [hname, ho, next_NoEscape, next_none]
          rfl
        have he : Extern.find fn = some Extern.AbiNoEscape.same := by
          unfold Extern.find
          simp only [hname, gen_NoEscape, typed_NoEscape, row_NoEscape]
          rfl
        rw [run_callFunc_extern hf (by rw [hname]; decide) hb hn he]
        rfl
  · obtain ⟨fn, hf, hb, ho, hor⟩ := externId_spec hid (by decide)
    have hname : fn.name = "sync/atomic.LoadPointer" := by simpa [externNames] using hor
    unfold atomLoadP at hr
    split at hr
    · rename_i x
      cases x <;> simp only at hr <;> try exact .inl ⟨_, hr.symm⟩
      rename_i b o
      simp only [VRels, VRel] at ha
      obtain ⟨y, s, rfl, ⟨i, hi, rfl⟩, rfl⟩ := ha
      rcases cellAt_rel hw hi hr with h | ⟨v, v', h1, h2, h3⟩
      · exact .inl h
      · have hrun : ∀ p, v' = .pointer p → (callFunc g #[.pointer (some ⟨i.blk, o + i.sh, none⟩)]).run P w = .ok (.value v') w := fun p e => by
          rw [extern_row hf hb ho (by rw [hname]; exact next_LoadPointer) (by rw [hname]; exact gen_LoadPointer) (by rw [hname]; exact typed_LoadPointer) (by rw [hname]; exact row_LoadPointer) (by rw [hname]; decide)]
          subst e
          rw [loadT_one]
          simp [asAddr, Extern.Atomic.read, load, Sem.run, h3]
        cases v <;> simp only at h1 <;> try exact .inl ⟨_, h1.symm⟩
        · simp only [VRel] at h2
          obtain ⟨j, hj, rfl⟩ := h2
          subst h1
          exact .same hw (by simp only [VRel]; exact ⟨j, hj, rfl⟩) (hrun _ rfl)
        · simp only [VRel] at h2
          subst h2
          subst h1
          exact .same hw (by simp only [VRel]) (hrun _ rfl)
    · exact .inl ⟨_, hr.symm⟩
  · obtain ⟨fn, hf, hb, ho, hor⟩ := externId_spec hid (by decide)
    have hname : fn.name = "sync/atomic.StorePointer" := by simpa [externNames] using hor
    unfold atomStoreP at hr
    split at hr
    · rename_i x v
      cases x <;> simp only at hr <;> try exact .inl ⟨_, hr.symm⟩
      rename_i b o
      simp only [VRels, VRel] at ha
      obtain ⟨y, s, rfl, ⟨i, hi, rfl⟩, y2, s2, rfl, hv, rfl⟩ := ha
      rcases store1_rel (P := P) hv hw hi hr with h | ⟨st', w', h1, h2, h3, h4, h5⟩
      · exact .inl h
      · refine .inr ⟨_, undef, st', w', h1.symm, h2, by simp only [VRel]; exact ⟨[], rfl, VRels.nil⟩, h3, ?_⟩
        rw [extern_row hf hb ho (by rw [hname]; exact next_StorePointer) (by rw [hname]; exact gen_StorePointer) (by rw [hname]; exact typed_StorePointer) (by rw [hname]; exact row_StorePointer) (by rw [hname]; decide)]
        show (Sem.run P (Extern.Atomic.storeT #[_, _]) w).andThen _ = _
        rw [storeT_two]
        simp [asAddr, h5, Result.andThen, Extern.Atomic.none_, undef]
    · exact .inl ⟨_, hr.symm⟩
  · obtain ⟨fn, hf, hb, ho, hor⟩ := externId_spec hid (by decide)
    have hname : fn.name = "internal/race.Disable" := by simpa [externNames] using hor
    subst hr
    refine .same (v' := undef) hw (by simp only [VRel]; exact ⟨[], rfl, VRels.nil⟩) ?_
    rw [extern_row hf hb ho (by rw [hname]; exact next_Disable) (by rw [hname]; exact gen_Disable) (by rw [hname]; exact typed_Disable) (by rw [hname]; exact row_Disable) (by rw [hname]; decide)]
    rfl
  · obtain ⟨fn, hf, hb, ho, hor⟩ := externId_spec hid (by decide)
    have hname : fn.name = "internal/race.Enable" := by simpa [externNames] using hor
    subst hr
    refine .same (v' := undef) hw (by simp only [VRel]; exact ⟨[], rfl, VRels.nil⟩) ?_
    rw [extern_row hf hb ho (by rw [hname]; exact next_Enable) (by rw [hname]; exact gen_Enable) (by rw [hname]; exact typed_Enable) (by rw [hname]; exact row_Enable) (by rw [hname]; decide)]
    rfl
  · obtain ⟨fn, hf, hb, ho, hor⟩ := externId_spec hid (by decide)
    have hname : fn.name = "internal/race.Acquire" := by simpa [externNames] using hor
    unfold raceMark at hr
    split at hr
    · rename_i x r
      cases x <;> simp only at hr <;> try exact .inl ⟨_, hr.symm⟩
      simp only [VRels, VRel] at ha
      obtain ⟨y, s, rfl, ⟨i, hi, rfl⟩, _⟩ := ha
      subst hr
      refine .same (v' := undef) hw (by simp only [VRel]; exact ⟨[], rfl, VRels.nil⟩) ?_
      rw [extern_row hf hb ho (by rw [hname]; exact next_Acquire) (by rw [hname]; exact gen_Acquire) (by rw [hname]; exact typed_Acquire) (by rw [hname]; exact row_Acquire) (by rw [hname]; decide)]
      rfl
    · exact .inl ⟨_, hr.symm⟩
  · obtain ⟨fn, hf, hb, ho, hor⟩ := externId_spec hid (by decide)
    have hname : fn.name = "internal/race.ReleaseMerge" := by simpa [externNames] using hor
    unfold raceMark at hr
    split at hr
    · rename_i x r
      cases x <;> simp only at hr <;> try exact .inl ⟨_, hr.symm⟩
      simp only [VRels, VRel] at ha
      obtain ⟨y, s, rfl, ⟨i, hi, rfl⟩, _⟩ := ha
      subst hr
      refine .same (v' := undef) hw (by simp only [VRel]; exact ⟨[], rfl, VRels.nil⟩) ?_
      rw [extern_row hf hb ho (by rw [hname]; exact next_ReleaseMerge) (by rw [hname]; exact gen_ReleaseMerge) (by rw [hname]; exact typed_ReleaseMerge) (by rw [hname]; exact row_ReleaseMerge) (by rw [hname]; decide)]
      rfl
    · exact .inl ⟨_, hr.symm⟩
  · obtain ⟨fn, hf, hb, ho, hor⟩ := externId_spec hid (by decide)
    have hname : fn.name = "sync/atomic.AddInt32" := by simpa [externNames] using hor
    unfold atomAdd at hr
    split at hr
    · rename_i x y
      cases x <;> simp only at hr <;> try exact .inl ⟨_, hr.symm⟩
      rename_i b o
      cases y <;> simp only at hr <;> try exact .inl ⟨_, hr.symm⟩
      rename_i k' d
      simp only [VRels, VRel] at ha
      obtain ⟨y, s, rfl, ⟨i, hi, rfl⟩, y2, s2, rfl, rfl, rfl⟩ := ha
      rcases cellAt_rel hw hi hr with h | ⟨v, v', h1, h2, h3⟩
      · exact .inl h
      · cases v <;> simp only at h1 <;> try exact .inl ⟨_, h1.symm⟩
        rename_i k n
        simp only [VRel] at h2
        subst h2
        cases hk : decide (k = .i32) && decide (k' = .i32) with
        | false => rw [hk] at h1; exact .inl ⟨_, h1.symm⟩
        | true =>
          rw [hk] at h1
          rw [Bool.and_eq_true] at hk
          have e1 : k = .i32 := of_decide_eq_true hk.1
          have e2 : k' = .i32 := of_decide_eq_true hk.2
          subst e1; subst e2
          simp only [cond_true, forceI_eq] at h1
          rcases store1_rel (P := P) (v := .int .i32 (IntKind.i32.wrap (Int.add n d))) (v' := .int .i32 (IntKind.i32.wrap (Int.add n d))) (by simp only [VRel]) hw hi h1 with h | ⟨st', w', g1, g2, g3, g4, g5⟩
          · exact .inl h
          · refine .inr ⟨_, .int .i32 (IntKind.i32.wrap (Int.add n d)), st', w', g1.symm, g2, by simp only [VRel], g3, ?_⟩
            rw [extern_row hf hb ho (by rw [hname]; exact next_AddInt32) (by rw [hname]; exact gen_AddInt32) (by rw [hname]; exact typed_AddInt32) (by rw [hname]; exact row_AddInt32) (by rw [hname]; decide)]
            have hl : (load ⟨i.blk, o + i.sh, none⟩ .atomic).run P w = .ok (.int .i32 n) w := by simp [load, Sem.run, h3]
            show (Sem.run P (Extern.Atomic.update _ _ _ #[_, _]) w).andThen _ = _
            rw [update_two]
            have g5' := g5 .atomic
            simp only [Int.add_def] at g5'
            simp [asAddr, Extern.Atomic.read, hl, asInt, asIntOf, Op.intArith, g5', Result.andThen]
    · exact .inl ⟨_, hr.symm⟩
  · obtain ⟨fn, hf, hb, ho, hor⟩ := externId_spec hid (by decide)
    have hname : fn.name = "sync/atomic.CompareAndSwapInt32" := by simpa [externNames] using hor
    unfold atomCas at hr
    split at hr
    · rename_i x y z
      cases x <;> simp only at hr <;> try exact .inl ⟨_, hr.symm⟩
      rename_i b o
      cases y <;> simp only at hr <;> try exact .inl ⟨_, hr.symm⟩
      rename_i k' old
      cases z <;> simp only at hr <;> try exact .inl ⟨_, hr.symm⟩
      rename_i k3 z
      simp only [VRels, VRel] at ha
      obtain ⟨y, s, rfl, ⟨i, hi, rfl⟩, y2, s2, rfl, rfl, y3, s3, rfl, rfl, rfl⟩ := ha
      rcases cellAt_rel hw hi hr with h | ⟨v, v', h1, h2, h3⟩
      · exact .inl h
      · cases v <;> simp only at h1 <;> try exact .inl ⟨_, h1.symm⟩
        rename_i k n
        simp only [VRel] at h2
        subst h2
        cases hk : decide (k = .i32) && decide (k' = .i32) with
        | false => rw [hk] at h1; exact .inl ⟨_, h1.symm⟩
        | true =>
          rw [hk] at h1
          rw [Bool.and_eq_true] at hk
          have e1 : k = .i32 := of_decide_eq_true hk.1
          have e2 : k' = .i32 := of_decide_eq_true hk.2
          subst e1; subst e2
          simp only [cond_true] at h1
          cases hn : n == old with
          | false => rw [hn] at h1; exact .inl ⟨_, h1.symm⟩
          | true =>
            rw [hn] at h1
            simp only [cond_true] at h1
            rcases store1_rel (P := P) (v := .int k3 z) (v' := .int k3 z) (by simp only [VRel]) hw hi h1 with h | ⟨st', w', g1, g2, g3, g4, g5⟩
            · exact .inl h
            · refine .inr ⟨_, .bool true, st', w', g1.symm, g2, by simp only [VRel], g3, ?_⟩
              rw [extern_row hf hb ho (by rw [hname]; exact next_CasInt32) (by rw [hname]; exact gen_CasInt32) (by rw [hname]; exact typed_CasInt32) (by rw [hname]; exact row_CasInt32) (by rw [hname]; decide)]
              have hl : (load ⟨i.blk, o + i.sh, none⟩ .atomic).run P w = .ok (.int .i32 n) w := by simp [load, Sem.run, h3]
              have hsh : ∃ e c, w.shape? i.blk = some (e, c) := by
                cases hb2 : w.heap[i.blk]? with
                | none => simp [World.cell?, hb2] at h3
                | some O => cases O <;> simp [World.cell?, hb2] at h3 <;> exact ⟨_, _, by simp [World.shape?, hb2]; exact ⟨rfl, rfl⟩⟩
              obtain ⟨e, c, hsh⟩ := hsh
              have ht : (Extern.Atomic.touchesFrozen ⟨i.blk, o + i.sh, none⟩).run P w = .ok false w := by
                simp [Extern.Atomic.touchesFrozen, viewAt, shape, Sem.run, hsh, frozen, g4]
              have hn' : n = old := by simpa using hn
              subst hn'
              show (Sem.run P (Extern.Atomic.casT _ #[_, _, _]) w).andThen _ = _
              rw [casT_three]
              simp [asAddr, ht, Extern.Atomic.read, hl, g5, Result.andThen]
    · exact .inl ⟨_, hr.symm⟩
  · exact .inl ⟨_, hr.symm⟩
end
end Go.Proofs.YtbmbjaogcmokoaaGreatDoorX

namespace Go.Proofs.YtbmbjaogcmokoaaGreatDoorX
open Go Go.RowKit
set_option linter.unusedVariables false

section
variable {sy : Sy} {G : Nat} {B : Kp} {w0 : World} {P : Program} {ρ ρ' : Ren} {cx : Cx} {env : List CV} {loc : Loc} {a : Act} {st st' : St} {w w' : World} {o : Oper} {call : Caller}

theorem VRels.drop : ∀ (n : Nat) {l : List CV} {l' : List Value}, VRels sy ρ l l' → VRels sy ρ (l.drop n) (l'.drop n)
  | 0, _, _, h => by simpa using h
  | n + 1, [], l', h => by simp only [VRels] at h; subst h; simp [VRels]
  | n + 1, x :: r, l', h => by
    simp only [VRels] at h
    obtain ⟨y, s, rfl, _, hr⟩ := h
    simpa using VRels.drop n hr
theorem VRels.take : ∀ (n : Nat) {l : List CV} {l' : List Value}, VRels sy ρ l l' → VRels sy ρ (l.take n) (l'.take n)
  | 0, _, _, h => by simp [VRels]
  | n + 1, [], l', h => by simp only [VRels] at h; subst h; simp [VRels]
  | n + 1, x :: r, l', h => by
    simp only [VRels] at h
    obtain ⟨y, s, rfl, hx, hr⟩ := h
    simpa using VRels.cons hx (VRels.take n hr)

theorem fieldOf_spec {t f off n : Nat} {g : Bool} (h : fieldOf P t f = some (off, g, n)) : ∃ fs x, P.underlying t = some (.struct fs) ∧ fs[f]? = some x ∧ aggOf P x.type = some g ∧ szOf P x.type = some n ∧ off = x.offset := by
  unfold fieldOf at h
  cases hu : P.underlying t with
  | none => rw [hu] at h; cases h
  | some d =>
    rw [hu] at h
    cases d <;> simp only at h <;> try (cases h; done)
    rename_i fs
    cases hx : fs[f]? with
    | none => rw [hx] at h; cases h
    | some x =>
      rw [hx] at h
      simp only at h
      cases hg : aggOf P x.type with
      | none => rw [hg] at h; cases h
      | some g' =>
        cases hn : szOf P x.type with
        | none => rw [hg, hn] at h; cases h
        | some n' =>
          rw [hg, hn] at h
          cases h
          exact ⟨fs, x, rfl, hx, hg, hn, rfl⟩

theorem field_ok {t f : Nat} {x : Operand} (ho : o.op = .field t x f) (hs : SR sy G cx ρ env loc a) (hd : DRel sy ρ st.dfs a.defers) (hw : WRel sy G B w0 ρ st w) :
    OpRes sy G B w0 P ρ a o w ((oField (fieldOf P t f) (ev cx x)).f call env loc st) := by
  have hx := evRel hs hw x
  unfold oField
  cases hf : fieldOf P t f with
  | none => exact trivial
  | some q =>
    obtain ⟨off, g, n⟩ := q
    obtain ⟨fs, fl, h1, h2, h3, h4, rfl⟩ := fieldOf_spec hf
    simp only
    cases g with
    | true =>
      simp only
      generalize (ev cx x).f env loc = u at *
      cases u <;> try exact trivial
      rename_i l
      simp only [VRel] at hx
      obtain ⟨l', e, hl⟩ := hx
      refine pure_val (v' := .agg ((l'.drop fl.offset).take n).toArray) ?_ hw hd (by simp only [VRel]; exact ⟨_, rfl, (hl.drop _).take _⟩)
      simp only [execOp, ho, Instr.field, Sem.run_bind, run_under h1, Result.andThen, h2, e, asAgg, Sem.run_pure, part, run_agg h3]
      simp [run_size h4]
    | false =>
      simp only
      generalize (ev cx x).f env loc = u at *
      cases u <;> try exact trivial
      rename_i l
      simp only
      cases hv : l[fl.offset]? with
      | none => exact trivial
      | some v =>
        simp only [VRel] at hx
        obtain ⟨l', e, hl⟩ := hx
        obtain ⟨v', k1, k2⟩ := hl.get _ _ hv
        refine pure_val (v' := v') ?_ hw hd k2
        simp [execOp, ho, Instr.field, run_under h1, h2, e, asAgg, part, run_agg h3, k1]

theorem isIface_spec {t : Nat} {b : Bool} (h : isIface P t = some b) : ∃ d, P.underlying t = some d ∧ (b = false → ∀ ms, d ≠ .interface ms) := by
  unfold isIface at h
  cases hu : P.underlying t with
  | none => rw [hu] at h; cases h
  | some d =>
    rw [hu] at h
    simp only [Option.map_some, Option.some.injEq] at h
    refine ⟨d, rfl, fun hb ms e => ?_⟩
    subst e
    rw [← h] at hb
    cases hb

theorem makeIface_ok {t : Nat} {x : Operand} (ho : o.op = .makeInterface t x) (hs : SR sy G cx ρ env loc a) (hd : DRel sy ρ st.dfs a.defers) (hw : WRel sy G B w0 ρ st w) :
    OpRes sy G B w0 P ρ a o w ((oMakeIface (isIface P t) t (ev cx x)).f call env loc st) := by
  have hx := evRel hs hw x
  unfold oMakeIface
  cases hi : isIface P t with
  | none => exact trivial
  | some b =>
    cases b with
    | true => exact trivial
    | false =>
      obtain ⟨d, hu, hne⟩ := isIface_spec hi
      refine pure_val (v' := .iface t (a.eval x)) ?_ hw hd (by simp only [VRel]; exact ⟨_, rfl, hx⟩)
      have : (Instr.makeInterface t (a.eval x)).run P w = .ok (.iface t (a.eval x)) w := by
        simp only [Instr.makeInterface, Sem.run_bind, run_under hu, Result.andThen]
        cases d <;> first | exact absurd rfl (hne rfl _) | rfl
      simp [execOp, ho, this]

theorem makeFunc_ok {f : Fn} {fi ca : Array Operand} (ho : o.op = .makeFunc f fi ca) (hs : SR sy G cx ρ env loc a) (hd : DRel sy ρ st.dfs a.defers) (hw : WRel sy G B w0 ρ st w) :
    OpRes sy G B w0 P ρ a o w (.ok (.func f ((evs cx fi.toList).f env loc) ((evs cx ca.toList).f env loc)) st) := by
  refine pure_val (v' := .func f (fi.toList.map a.eval).toArray (ca.toList.map a.eval).toArray) ?_ hw hd (by simp only [VRel]; exact ⟨_, _, rfl, evsRel hs hw _, evsRel hs hw _⟩)
  simp only [execOp, ho, Instr.makeFunc, Sem.run_bind, Sem.run_pure, Result.andThen]
  rw [show Array.map a.eval fi = (List.map a.eval fi.toList).toArray from Array.toList_inj.1 (by simp), show Array.map a.eval ca = (List.map a.eval ca.toList).toArray from Array.toList_inj.1 (by simp)]

theorem assert_ok {t t0 : Nat} {ok : Bool} {x : Operand} (ho : o.op = .typeAssert x t0 t ok) (hs : SR sy G cx ρ env loc a) (hd : DRel sy ρ st.dfs a.defers) (hw : WRel sy G B w0 ρ st w) :
    OpRes sy G B w0 P ρ a o w ((oAssert (isIface P t) (zeroOf P t) t ok (ev cx x)).f call env loc st) := by
  have hx := evRel hs hw x
  unfold oAssert
  cases ok with
  | false =>
    cases hi : isIface P t with
    | none => exact trivial
    | some b =>
      cases b with
      | true => exact trivial
      | false =>
        obtain ⟨d, hu, hne⟩ := isIface_spec hi
        simp only
        generalize (ev cx x).f env loc = u at *
        cases u <;> try exact trivial
        rename_i t' v
        simp only [VRel] at hx
        obtain ⟨v', e, hv⟩ := hx
        simp only
        cases hb : Nat.beq t' t with
        | false => exact trivial
        | true =>
          have : t' = t := Nat.eq_of_beq_eq_true hb
          subst this
          refine pure_val (v' := v') ?_ hw hd hv
          have : (Instr.typeAssert (a.eval x) t0 t' false).run P w = .ok v' w := by
            rw [e]
            simp only [Instr.typeAssert, Sem.run_bind, run_under hu, Result.andThen]
            cases d <;> first | exact absurd rfl (hne rfl _) | simp
          simp [execOp, ho, this]
  | true =>
    cases hi : isIface P t with
    | none => exact trivial
    | some b =>
      cases b with
      | true => exact trivial
      | false =>
        cases hz : zeroOf P t with
        | none => exact trivial
        | some z =>
          obtain ⟨d, hu, hne⟩ := isIface_spec hi
          obtain ⟨z', hz1, hz2, _⟩ := run_zero (sy := sy) hz w ρ
          simp only
          generalize (ev cx x).f env loc = u at *
          cases u <;> try exact trivial
          · rename_i t' v
            simp only [VRel] at hx
            obtain ⟨v', e, hv⟩ := hx
            simp only
            cases hb : Nat.beq t' t with
            | true =>
              have : t' = t := Nat.eq_of_beq_eq_true hb
              subst this
              refine pure_val (v' := .tuple [v', .bool true].toArray) ?_ hw hd (by simp only [VRel]; exact ⟨_, rfl, VRels.cons hv (VRels.cons (by simp [VRel]) VRels.nil)⟩)
              have : (Instr.typeAssert (a.eval x) t0 t' true).run P w = .ok (.tuple [v', .bool true].toArray) w := by
                rw [e]
                simp only [Instr.typeAssert, Sem.run_bind, run_under hu, Result.andThen]
                cases d <;> first | exact absurd rfl (hne rfl _) | simp
              simp [execOp, ho, this]
            | false =>
              have hn : ¬ t' = t := fun h => by rw [h] at hb; simp at hb
              refine pure_val (v' := .tuple [z', .bool false].toArray) ?_ hw hd (by simp only [VRel]; exact ⟨_, rfl, VRels.cons hz2 (VRels.cons (by simp [VRel]) VRels.nil)⟩)
              have : (Instr.typeAssert (a.eval x) t0 t true).run P w = .ok (.tuple [z', .bool false].toArray) w := by
                rw [e]
                simp only [Instr.typeAssert, Sem.run_bind, run_under hu, Result.andThen]
                cases d <;> first | exact absurd rfl (hne rfl _) | simp [hn, hz1]
              simp [execOp, ho, this]
          · simp only [VRel] at hx
            refine pure_val (v' := .tuple [z', .bool false].toArray) ?_ hw hd (by simp only [VRel]; exact ⟨_, rfl, VRels.cons hz2 (VRels.cons (by simp [VRel]) VRels.nil)⟩)
            have : (Instr.typeAssert (a.eval x) t0 t true).run P w = .ok (.tuple [z', .bool false].toArray) w := by
              rw [hx]
              simp only [Instr.typeAssert, Sem.run_bind, run_under hu, Result.andThen]
              cases d <;> first | exact absurd rfl (hne rfl _) | simp [hz1]
            simp [execOp, ho, this]

theorem panic_ok {x : Operand} (ho : o.op = .panic x) (hs : SR sy G cx ρ env loc a) (hd : DRel sy ρ st.dfs a.defers) (hw : WRel sy G B w0 ρ st w) :
    OpRes sy G B w0 P ρ a o w ((oPanic (ev cx x)).f call env loc st) := by
  have hx := evRel hs hw x
  unfold oPanic
  simp only
  generalize (ev cx x).f env loc = u at *
  cases u <;> try exact trivial
  rename_i t v
  have hx' := hx
  simp only [VRel] at hx
  obtain ⟨v', e, hv⟩ := hx
  intro next Q h
  unfold Oper.wp
  have : (execOp a.eval o).run P w = .halt (.panic (a.eval x)) w := by
    simp [execOp, ho, Instr.panic, e, goPanic]
  rw [this]
  exact h ρ (a.eval x) w (Ren.le_refl _) hx' hw hd

theorem max_ok {c : Call} {x y : Operand} (ho : o.op = .call c) (hc : c.callee = .builtin .max) (ha : c.args.toList = [x, y]) (hs : SR sy G cx ρ env loc a) (hd : DRel sy ρ st.dfs a.defers) (hw : WRel sy G B w0 ρ st w) :
    OpRes sy G B w0 P ρ a o w ((oMax (ev cx x) (ev cx y)).f call env loc st) := by
  have hx := evRel hs hw x
  have hy := evRel hs hw y
  have ha' : c.args = #[x, y] := Array.toList_inj.1 (by simpa using ha)
  unfold oMax
  simp only
  generalize (ev cx x).f env loc = u at *
  cases u <;> try exact trivial
  simp only
  generalize (ev cx y).f env loc = v at *
  cases v <;> try exact trivial
  rename_i k m k' n
  simp only [VRel] at hx hy
  have hrun : (execOp a.eval o).run P w = .ok (.value (.int k (if n > m then n else m))) w := by
    rw [builtin_call (s := do pure (.value (← Builtin.max_ c.argTypes o.type #[a.eval x, a.eval y]))) ho hc (fun _ => by rw [ha']; simp [builtin]), hx, hy]
    simp [Builtin.max_, Builtin.max2]
  simp only
  cases hdc : decide (n > m) with
  | true =>
    have : n > m := of_decide_eq_true hdc
    exact pure_val (v' := .int k n) (by rw [hrun, if_pos this]) hw hd (by simp only [VRel])
  | false =>
    have : ¬ n > m := of_decide_eq_false hdc
    exact pure_val (v' := .int k m) (by rw [hrun, if_neg this]) hw hd (by simp only [VRel])

theorem min_ok {c : Call} {x y : Operand} (ho : o.op = .call c) (hc : c.callee = .builtin .min) (ha : c.args.toList = [x, y]) (hs : SR sy G cx ρ env loc a) (hd : DRel sy ρ st.dfs a.defers) (hw : WRel sy G B w0 ρ st w) :
    OpRes sy G B w0 P ρ a o w ((oMin (ev cx x) (ev cx y)).f call env loc st) := by
  have hx := evRel hs hw x
  have hy := evRel hs hw y
  have ha' : c.args = #[x, y] := Array.toList_inj.1 (by simpa using ha)
  unfold oMin
  simp only
  generalize (ev cx x).f env loc = u at *
  cases u <;> try exact trivial
  simp only
  generalize (ev cx y).f env loc = v at *
  cases v <;> try exact trivial
  rename_i k m k' n
  simp only [VRel] at hx hy
  have hrun : (execOp a.eval o).run P w = .ok (.value (.int k (if n < m then n else m))) w := by
    rw [builtin_call (s := do pure (.value (← Builtin.min_ c.argTypes o.type #[a.eval x, a.eval y]))) ho hc (fun _ => by rw [ha']; simp [builtin]), hx, hy]
    simp [Builtin.min_, Builtin.min2]
  simp only
  cases hdc : decide (n < m) with
  | true =>
    have : n < m := of_decide_eq_true hdc
    exact pure_val (v' := .int k n) (by rw [hrun, if_pos this]) hw hd (by simp only [VRel])
  | false =>
    have : ¬ n < m := of_decide_eq_false hdc
    exact pure_val (v' := .int k m) (by rw [hrun, if_neg this]) hw hd (by simp only [VRel])
end
end Go.Proofs.YtbmbjaogcmokoaaGreatDoorX

namespace Go.Proofs.YtbmbjaogcmokoaaGreatDoorX
open Go Go.RowKit
set_option linter.unusedVariables false

section
variable {sy : Sy} {G : Nat} {B : Kp} {w0 : World} {P : Program} {ρ ρ' : Ren} {cx : Cx} {env : List CV} {loc : Loc} {a : Act} {st st' : St} {w w' : World} {o : Oper} {call : Caller}

theorem mapOf_spec {t kd : Nat} {z : Option CV} (h : mapOf P t = some (kd, z)) : ∃ k e d, P.underlying t = some (.map k e) ∧ P.underlying k = some d ∧ z = zeroOf P e ∧ ((kd = 1 ∧ d = .string) ∨ (kd = 2 ∧ ∃ i, d = .int i)) := by
  unfold mapOf at h
  cases hu : P.underlying t with
  | none => rw [hu] at h; cases h
  | some d =>
    rw [hu] at h
    cases d <;> simp only at h <;> try (cases h; done)
    rename_i k e
    cases hk : P.underlying k with
    | none => rw [hk] at h; cases h
    | some kd' =>
      rw [hk] at h
      cases kd' <;> simp only at h <;> try (cases h; done)
      · cases h; exact ⟨k, e, _, rfl, hk, rfl, .inr ⟨rfl, _, rfl⟩⟩
      · cases h; exact ⟨k, e, _, rfl, hk, rfl, .inl ⟨rfl, rfl⟩⟩

/-- two keys -/
theorem keyEq_rel {x y : CV} {x' y' : Value} {K : Bool → RV} {r : RV} {d : TypeDesc} (hx : VRel sy ρ x x') (hy : VRel sy ρ y y') (hd : (∃ l n, x = .str l n ∧ d = .string) ∨ ∃ k a i, x = .int k a ∧ d = .int i) (hr : keyEq x y K = r) :
    (∃ k, r = .err k) ∨ ∃ b, K b = r ∧ Instr.sameNow d x' y' = some b := by
  rcases hd with ⟨l, n, rfl, rfl⟩ | ⟨k, z, i, rfl, rfl⟩
  · cases y <;> simp only [keyEq] at hr <;> try exact .inl ⟨_, hr.symm⟩
    simp only [VRel] at hx hy
    subst hx; subst hy
    rename_i m k
    refine .inr ⟨_, hr, ?_⟩
    simp only [Instr.sameNow]
    rw [eqStr_eq, beq_toListBytes]
  · cases y <;> simp only [keyEq] at hr <;> try exact .inl ⟨_, hr.symm⟩
    rename_i k' b
    cases hk : decide (k = k') with
    | false => rw [hk] at hr; exact .inl ⟨_, hr.symm⟩
    | true =>
      rw [hk] at hr
      have : k = k' := of_decide_eq_true hk
      subst this
      simp only [VRel] at hx hy
      subst hx; subst hy
      exact .inr ⟨_, hr, by simp [Instr.sameNow]⟩

theorem findE_rel {x : CV} {x' : Value} {d : TypeDesc} (hx : VRel sy ρ x x') (hd : (∃ l n, x = .str l n ∧ d = .string) ∨ ∃ k a i, x = .int k a ∧ d = .int i) {K : Option CV → RV} {r : RV} :
    ∀ (es : List Ent) (es' : List MapEntry) (i : Nat), EntRel sy ρ es es' → findE x K es = r → (∃ k, r = .err k) ∨ (K none = r ∧ Instr.findNow d x' es' i = some none) ∨ ∃ v v' j, K (some v) = r ∧ VRel sy ρ v v' ∧ Instr.findNow d x' es' i = some (some (j, v'))
  | [], es', i, h, hr => by
    simp only [EntRel] at h
    subst h
    exact .inr (.inl ⟨hr, rfl⟩)
  | e :: es, es', i, h, hr => by
    simp only [EntRel] at h
    obtain ⟨y, s, rfl, h1, h2, _, h4⟩ := h
    have hr' : keyEq x e.key (fun b => bif b then K (some e.val) else findE x K es) = r := hr
    rcases keyEq_rel hx h1 hd hr' with h | ⟨b, hb, hs⟩
    · exact .inl h
    · cases b with
      | true =>
        refine .inr (.inr ⟨e.val, y.val, i, hb, h2, ?_⟩)
        simp [Instr.findNow, hs]
      | false =>
        rcases findE_rel hx hd es s (i + 1) h4 hb with h | ⟨h, h'⟩ | ⟨v, v', j, p1, p2, p3⟩
        · exact .inl h
        · exact .inr (.inl ⟨h, by simp [Instr.findNow, hs, h']⟩)
        · exact .inr (.inr ⟨v, v', j, p1, p2, by simp [Instr.findNow, hs, p3]⟩)

theorem keyForce_rel {kd : Nat} {x : CV} {K : CV → RV} {r : RV} {d : TypeDesc} (hd : (kd = 1 ∧ d = .string) ∨ (kd = 2 ∧ ∃ i, d = .int i)) (hr : keyForce kd x K = r) :
    (∃ k, r = .err k) ∨ (K x = r ∧ ((∃ l n, x = .str l n ∧ d = .string) ∨ ∃ k a i, x = .int k a ∧ d = .int i)) := by
  unfold keyForce at hr
  cases x <;> simp only at hr <;> try exact .inl ⟨_, hr.symm⟩
  · rename_i k z
    rcases hd with ⟨rfl, rfl⟩ | ⟨rfl, i, rfl⟩
    · exact .inl ⟨_, hr.symm⟩
    · exact .inr ⟨hr, .inr ⟨_, _, _, rfl, rfl⟩⟩
  · rename_i l n
    rcases hd with ⟨rfl, rfl⟩ | ⟨rfl, i, rfl⟩
    · exact .inr ⟨hr, .inl ⟨_, _, rfl, rfl⟩⟩
    · exact .inl ⟨_, hr.symm⟩

theorem run_checkKey {k : TypeId} {d : TypeDesc} (hu : P.underlying k = some d) (hd : d = .string ∨ ∃ i, d = .int i) (e : Bool) (v : Value) (w : World) : (Instr.checkKey e 10000 k v).run P w = .ok () w := by
  unfold Instr.checkKey
  simp only [Sem.run_bind, run_under hu, Result.andThen]
  rcases hd with rfl | ⟨i, rfl⟩ <;> rfl

theorem lookup_ok {t : Nat} {m k : Operand} {ok : Bool} (ho : o.op = .lookup t m k ok) (hs : SR sy G cx ρ env loc a) (hd : DRel sy ρ st.dfs a.defers) (hw : WRel sy G B w0 ρ st w) :
    OpRes sy G B w0 P ρ a o w ((oLookup (mapOf P t) ok (ev cx m) (ev cx k)).f call env loc st) := by
  have hm := evRel hs hw m
  have hk := evRel hs hw k
  unfold oLookup
  cases hmo : mapOf P t with
  | none => exact trivial
  | some q =>
    obtain ⟨kd, z⟩ := q
    obtain ⟨kt, et, d, h1, h2, rfl, h3⟩ := mapOf_spec hmo
    simp only
    cases hz : zeroOf P et with
    | none => exact trivial
    | some z =>
      obtain ⟨z', hz1, hz2, _⟩ := run_zero (sy := sy) hz w ρ
      have hkd : d = .string ∨ ∃ i, d = .int i := by
        rcases h3 with ⟨_, h⟩ | ⟨_, h⟩
        · exact .inl h
        · exact .inr h
      simp only
      have fin : ∀ {v : CV} {v' : Value} {b : Bool}, VRel sy ρ v v' → (Instr.lookup t (a.eval m) (a.eval k) ok).run P w = .ok (if ok then .tuple #[v', .bool b] else v') w → OpRes sy G B w0 P ρ a o w (lookAns ok v b st) := fun {v v' b} hv hrun => by
        cases ok with
        | true => exact pure_val (v' := .tuple [v', .bool b].toArray) (by simp [execOp, ho, hrun]) hw hd (by simp only [VRel]; exact ⟨_, rfl, VRels.cons hv (VRels.cons (by simp [VRel]) VRels.nil)⟩)
        | false => exact pure_val (v' := v') (by simp [execOp, ho, hrun]) hw hd hv
      generalize (ev cx m).f env loc = u at *
      cases u <;> try exact trivial
      · rename_i b
        simp only
        cases hg : st.heap.get b with
        | none => exact trivial
        | some ob =>
          simp only
          cases ob <;> try exact trivial
          rename_i es clock
          obtain ⟨i, es', p1, p2, p3, p4⟩ := hw.obj b _ hg
          simp only [VRel] at hm
          obtain ⟨i', q1, q2⟩ := hm
          rw [p1] at q1; cases q1
          simp only
          generalize hr : keyForce kd ((ev cx k).f env loc) _ = r
          rcases keyForce_rel h3 hr with ⟨n, rfl⟩ | ⟨hr2, hfit⟩
          · exact trivial
          · rcases findE_rel hk hfit es _ 0 p4 hr2 with ⟨n, rfl⟩ | ⟨hr3, hf⟩ | ⟨v, v', j, hr3, hv, hf⟩
            · exact trivial
            · rw [← hr3]
              refine fin hz2 ?_
              simp only [Instr.lookup, Sem.run_bind, run_under h1, q2, run_getObj p3 (by simp), Result.andThen, Sem.run_pure, run_checkKey h2 hkd, Instr.findKey, run_under h2, hf, hz1]
            · rw [← hr3]
              refine fin hv ?_
              simp only [Instr.lookup, Sem.run_bind, run_under h1, q2, run_getObj p3 (by simp), Result.andThen, Sem.run_pure, run_checkKey h2 hkd, Instr.findKey, run_under h2, hf]
      · simp only [VRel] at hm
        refine fin hz2 ?_
        have hf : Instr.findNow d (a.eval k) [] 0 = some none := rfl
        simp only [Instr.lookup, Sem.run_bind, run_under h1, hm, Result.andThen, Sem.run_pure, run_checkKey h2 hkd, Instr.findKey, run_under h2, hf, hz1]

theorem EntRel.push {e : Ent} {e' : MapEntry} (h1 : VRel sy ρ e.key e'.key) (h2 : VRel sy ρ e.val e'.val) (h3 : e'.born = e.born) : ∀ {l : List Ent} {l' : List MapEntry}, EntRel sy ρ l l' → EntRel sy ρ (l ++ [e]) (l' ++ [e'])
  | [], _, h => by
    simp only [EntRel] at h
    subst h
    simp only [List.nil_append, EntRel]
    exact ⟨e', [], rfl, h1, h2, h3, rfl⟩
  | x :: r, _, h => by
    simp only [EntRel] at h
    obtain ⟨y, s, rfl, k1, k2, k3, k4⟩ := h
    simp only [List.cons_append, EntRel]
    exact ⟨y, s ++ [e'], rfl, k1, k2, k3, EntRel.push h1 h2 h3 k4⟩
theorem pushE_eq (e : Ent) : ∀ (es : List Ent) (K : List Ent → RV), pushE e es K = K (es ++ [e])
  | [], K => rfl
  | x :: r, K => by
    show pushE e r (fun l => K (x :: l)) = _
    rw [pushE_eq e r]
    rfl

/-- an entry's value is turned -/
theorem setE_rel {x v : CV} {x' v' : Value} {d : TypeDesc} (hx : VRel sy ρ x x') (hv : VRel sy ρ v v') (hd : (∃ l n, x = .str l n ∧ d = .string) ∨ ∃ k a i, x = .int k a ∧ d = .int i) :
    ∀ (es : List Ent) (es' : List MapEntry) (i j : Nat) (u : Value) (K : List Ent → RV) (r : RV), EntRel sy ρ es es' → setE x v es K = r → Instr.findNow d x' es' i = some (some (j, u)) →
      (∃ k, r = .err k) ∨ ∃ l', K l' = r ∧ i ≤ j ∧ (∃ e, es'[j - i]? = some e ∧ Instr.sameNow d x' e.key = some true) ∧ EntRel sy ρ l' (es'.modify (j - i) fun e => { e with key := x', val := v' })
  | [], es', i, j, u, K, r, h, hr, hf => by
    simp only [EntRel] at h
    subst h
    simp [Instr.findNow] at hf
  | e :: es, es', i, j, u, K, r, h, hr, hf => by
    simp only [EntRel] at h
    obtain ⟨y, s, rfl, h1, h2, h3, h4⟩ := h
    have hr' : keyEq x e.key (fun b => bif b then K (⟨x, v, e.born⟩ :: es) else setE x v es fun l => K (e :: l)) = r := hr
    rcases keyEq_rel hx h1 hd hr' with h | ⟨b, hb, hs⟩
    · exact .inl h
    · cases b with
      | true =>
        simp only [Instr.findNow, hs, Option.some.injEq, Prod.mk.injEq] at hf
        obtain ⟨rfl, _⟩ := hf
        refine .inr ⟨_, hb, Nat.le_refl _, ⟨y, by simp, hs⟩, ?_⟩
        simp only [Nat.sub_self, List.modify_zero_cons, EntRel]
        exact ⟨_, s, rfl, hx, hv, h3, h4⟩
      | false =>
        simp only [Instr.findNow, hs] at hf
        rcases setE_rel hx hv hd es s (i + 1) j u _ r h4 hb hf with h | ⟨l', k1, k2, ⟨e2, k3, k4⟩, k5⟩
        · exact .inl h
        · have e1 : j - i = (j - (i + 1)) + 1 := by omega
          refine .inr ⟨_, k1, by omega, ⟨e2, by rw [e1]; simpa using k3, k4⟩, ?_⟩
          rw [e1, List.modify_succ_cons]
          simp only [EntRel]
          exact ⟨y, _, rfl, h1, h2, h3, k5⟩
/-- an entry goes -/
theorem dropE_rel {x : CV} {x' : Value} {d : TypeDesc} (hx : VRel sy ρ x x') (hd : (∃ l n, x = .str l n ∧ d = .string) ∨ ∃ k a i, x = .int k a ∧ d = .int i) :
    ∀ (es : List Ent) (es' : List MapEntry) (i : Nat) (K : List Ent → RV) (r : RV), EntRel sy ρ es es' → dropE x es K = r →
      (∃ k, r = .err k) ∨ ∃ l', K l' = r ∧ ((Instr.findNow d x' es' i = some none ∧ EntRel sy ρ l' es') ∨ ∃ j u, Instr.findNow d x' es' i = some (some (j, u)) ∧ i ≤ j ∧ j - i < es'.length ∧ EntRel sy ρ l' (es'.eraseIdx (j - i)))
  | [], es', i, K, r, h, hr => by
    simp only [EntRel] at h
    subst h
    exact .inr ⟨[], hr, .inl ⟨rfl, by simp [EntRel]⟩⟩
  | e :: es, es', i, K, r, h, hr => by
    simp only [EntRel] at h
    obtain ⟨y, s, rfl, h1, h2, h3, h4⟩ := h
    have hr' : keyEq x e.key (fun b => bif b then K es else dropE x es fun l => K (e :: l)) = r := hr
    rcases keyEq_rel hx h1 hd hr' with h | ⟨b, hb, hs⟩
    · exact .inl h
    · cases b with
      | true => exact .inr ⟨_, hb, .inr ⟨i, y.val, by simp [Instr.findNow, hs], Nat.le_refl _, by simp, by simpa using h4⟩⟩
      | false =>
        rcases dropE_rel hx hd es s (i + 1) _ r h4 hb with h | ⟨l', k1, ⟨k2, k3⟩ | ⟨j, u, k2, k3, k4, k5⟩⟩
        · exact .inl h
        · exact .inr ⟨_, k1, .inl ⟨by simp [Instr.findNow, hs, k2], by simp only [EntRel]; exact ⟨y, s, rfl, h1, h2, h3, k3⟩⟩⟩
        · have e1 : j - i = (j - (i + 1)) + 1 := by omega
          refine .inr ⟨_, k1, .inr ⟨j, u, by simp [Instr.findNow, hs, k2], by omega, by rw [e1]; simpa using k4, ?_⟩⟩
          rw [e1, List.eraseIdx_cons_succ]
          simp only [EntRel]
          exact ⟨y, _, rfl, h1, h2, h3, k5⟩
theorem sameBits_of_now {d : TypeDesc} {x y : Value} (h : Instr.sameNow d x y = some true) (hd : d = .string ∨ ∃ i, d = .int i) : Instr.sameBits 10000 y x = true := by
  rcases hd with rfl | ⟨i, rfl⟩
  · cases x <;> cases y <;> simp [Instr.sameNow] at h
    rename_i a b
    rw [beq_toListBytes] at h
    have h' := eq_of_beq h
    simp [Instr.sameBits, beq_toListBytes, h']
  · cases x <;> cases y <;> simp [Instr.sameNow] at h
    obtain ⟨rfl, rfl⟩ := h
    simp [Instr.sameBits]

theorem update_ok {t : Nat} {m k x : Operand} (ho : o.op = .mapUpdate t m k x ∨ o.op = .insert t m k x) (hs : SR sy G cx ρ env loc a) (hd : DRel sy ρ st.dfs a.defers) (hw : WRel sy G B w0 ρ st w) :
    OpRes sy G B w0 P ρ a o w ((oUpdate (mapOf P t) (ev cx m) (ev cx k) (ev cx x)).f call env loc st) := by
  have hm := evRel hs hw m
  have hk := evRel hs hw k
  have hx := evRel hs hw x
  unfold oUpdate
  cases hmo : mapOf P t with
  | none => exact trivial
  | some q =>
    obtain ⟨kd, z⟩ := q
    obtain ⟨kt, et, d, h1, h2, _, h3⟩ := mapOf_spec hmo
    have hkd : d = .string ∨ ∃ i, d = .int i := by
      rcases h3 with ⟨_, h⟩ | ⟨_, h⟩
      · exact .inl h
      · exact .inr h
    simp only
    generalize (ev cx m).f env loc = u at *
    cases u <;> try exact trivial
    rename_i b
    simp only
    cases hg : st.heap.get b with
    | none => exact trivial
    | some ob =>
      simp only
      cases ob <;> try exact trivial
      rename_i es clock
      obtain ⟨i, es', p1, p2, p3, p4⟩ := hw.obj b _ hg
      simp only [VRel] at hm
      obtain ⟨i', q1, q2⟩ := hm
      rw [p1] at q1; cases q1
      simp only
      generalize hr : keyForce kd ((ev cx k).f env loc) _ = r
      rcases keyForce_rel h3 hr with ⟨n, rfl⟩ | ⟨hr2, hfit⟩
      · exact trivial
      · rcases findE_rel hk hfit es _ 0 p4 hr2 with ⟨n, rfl⟩ | ⟨hr3, hf⟩ | ⟨v, v', j, hr3, hv, hf⟩
        · exact trivial
        · rw [← hr3, pushE_eq, forceN_eq]
          obtain ⟨hp0, nx, d0⟩ := st
          rw [setObj_eq]
          have hblk : i.blk < w.heap.size := (Array.getElem?_eq_some_iff.1 p3).1
          have hw1 : WRel sy G B w0 ρ ⟨T.set hp0 (.map (es ++ [⟨(ev cx k).f env loc, (ev cx x).f env loc, clock⟩]) (Nat.succ clock)) b, nx, d0⟩ { w with heap := w.heap.setIfInBounds i.blk (.map (es'.push ⟨a.eval k, a.eval x, clock⟩) (clock + 1)) } :=
            hw.update hg rfl p1 p2 (setObj_below p2) (fun k hk => setObj_ne hk) ⟨i, _, p1, p2, setObj_same hblk, by
              rw [Array.toList_push]
              exact EntRel.push hk hx rfl p4⟩
          refine ok_skip ?_ (Ren.le_refl _) hw1 hd
          have : (Instr.mapUpdate t (a.eval m) (a.eval k) (a.eval x)).run P w = .ok () { w with heap := w.heap.setIfInBounds i.blk (.map (es'.push ⟨a.eval k, a.eval x, clock⟩) (clock + 1)) } := by
            simp only [Instr.mapUpdate, Sem.run_bind, run_under h1, q2, run_getObj p3 (by simp), Result.andThen, Sem.run_pure, run_checkKey h2 hkd, Instr.findKey, run_under h2, hf, run_setObj p3 (by simp)]
          rcases ho with ho | ho <;> simp [execOp, ho, this]
        · have hr4 : setE ((ev cx k).f env loc) ((ev cx x).f env loc) es (fun es => setObj (.map es clock) b st fun st => RV.ok (.tup []) st) = r := hr3
          rcases setE_rel hk hx hfit es _ 0 j v' _ r p4 hr4 hf with ⟨n, rfl⟩ | ⟨l', hr5, _, ⟨e2, g1, g2⟩, g3⟩
          · exact trivial
          · rw [← hr5]
            obtain ⟨hp0, nx, d0⟩ := st
            rw [setObj_eq]
            rw [Nat.sub_zero] at g1 g3
            have hblk : i.blk < w.heap.size := (Array.getElem?_eq_some_iff.1 p3).1
            have hw1 : WRel sy G B w0 ρ ⟨T.set hp0 (.map l' clock) b, nx, d0⟩ { w with heap := w.heap.setIfInBounds i.blk (.map (es'.modify j fun e => { e with key := a.eval k, val := a.eval x }) clock) } :=
              hw.update hg rfl p1 p2 (setObj_below p2) (fun k hk => setObj_ne hk) ⟨i, _, p1, p2, setObj_same hblk, by
                rw [Array.toList_modify]
                exact g3⟩
            refine ok_skip ?_ (Ren.le_refl _) hw1 hd
            have g1' : es'[j]? = some e2 := by simpa using g1
            have : (Instr.mapUpdate t (a.eval m) (a.eval k) (a.eval x)).run P w = .ok () { w with heap := w.heap.setIfInBounds i.blk (.map (es'.modify j fun e => { e with key := a.eval k, val := a.eval x }) clock) } := by
              simp only [Instr.mapUpdate, Sem.run_bind, run_under h1, q2, run_getObj p3 (by simp), Result.andThen, Sem.run_pure, run_checkKey h2 hkd, Instr.findKey, run_under h2, hf, g1', Option.map_some, Option.getD_some, Instr.keyThatStays, sameBits_of_now g2 hkd, if_true, run_setObj p3 (by simp)]
            rcases ho with ho | ho <;> simp [execOp, ho, this]

theorem delete_ok {c : Call} {m k : Operand} {t t2 : TypeId} (ho : o.op = .call c) (hc : c.callee = .builtin .delete) (ha : c.args.toList = [m, k]) (ht : c.argTypes.toList = [t, t2])
    (hs : SR sy G cx ρ env loc a) (hd : DRel sy ρ st.dfs a.defers) (hw : WRel sy G B w0 ρ st w) :
    OpRes sy G B w0 P ρ a o w ((oDelete (mapOf P t) (ev cx m) (ev cx k)).f call env loc st) := by
  have hm := evRel hs hw m
  have hk := evRel hs hw k
  have ha' : c.args = #[m, k] := Array.toList_inj.1 (by simpa using ha)
  have ht' : c.argTypes = #[t, t2] := Array.toList_inj.1 (by simpa using ht)
  have hrun : ∀ s : Sem Value, Builtin.delete_ #[t, t2] o.type #[a.eval m, a.eval k] = s → (execOp a.eval o).run P w = (s.run P w).andThen fun v w => .ok (.value v) w := fun s h => by
    rw [builtin_call (s := do pure (.value (← s))) ho hc (fun _ => by rw [ha', ht']; simp only [builtin]; rw [← h]; simp)]
    simp
  unfold oDelete
  cases hmo : mapOf P t with
  | none => exact trivial
  | some q =>
    obtain ⟨kd, z⟩ := q
    obtain ⟨kt, et, d, h1, h2, _, h3⟩ := mapOf_spec hmo
    have hkd : d = .string ∨ ∃ i, d = .int i := by
      rcases h3 with ⟨_, h⟩ | ⟨_, h⟩
      · exact .inl h
      · exact .inr h
    simp only
    generalize (ev cx m).f env loc = u at *
    cases u <;> try exact trivial
    · rename_i b
      simp only
      cases hg : st.heap.get b with
      | none => exact trivial
      | some ob =>
        simp only
        cases ob <;> try exact trivial
        rename_i es clock
        obtain ⟨i, es', p1, p2, p3, p4⟩ := hw.obj b _ hg
        simp only [VRel] at hm
        obtain ⟨i', q1, q2⟩ := hm
        rw [p1] at q1; cases q1
        simp only
        generalize hr : keyForce kd ((ev cx k).f env loc) _ = r
        rcases keyForce_rel h3 hr with ⟨n, rfl⟩ | ⟨hr2, hfit⟩
        · exact trivial
        · have hblk : i.blk < w.heap.size := (Array.getElem?_eq_some_iff.1 p3).1
          obtain ⟨hp0, nx, d0⟩ := st
          rcases dropE_rel hk hfit es _ 0 _ r p4 hr2 with ⟨n, rfl⟩ | ⟨l', hr3, ⟨hf, hl⟩ | ⟨j, u, hf, _, hlt, hl⟩⟩
          · exact trivial
          · rw [← hr3, setObj_eq]
            have hw1 : WRel sy G B w0 ρ ⟨T.set hp0 (.map l' clock) b, nx, d0⟩ { w with heap := w.heap.setIfInBounds i.blk (.map es' clock) } :=
              hw.update hg rfl p1 p2 (setObj_below p2) (fun k hk => setObj_ne hk) ⟨i, _, p1, p2, setObj_same hblk, hl⟩
            refine ok_val (v' := undef) ?_ (Ren.le_refl _) (by simp only [VRel]; exact ⟨[], rfl, VRels.nil⟩) hw1 hd
            rw [hrun _ rfl]
            simp only [Builtin.delete_, List.getElem?_toArray, List.getElem?_cons_zero, List.getElem?_cons_succ, Sem.run_bind, run_under h1, q2, run_getObj p3 (by simp), Result.andThen, Sem.run_pure, run_checkKey h2 hkd, Instr.findKey, run_under h2, hf, run_setObj p3 (by simp)]
            rfl
          · rw [← hr3, setObj_eq]
            rw [Nat.sub_zero] at hl hlt
            have hw1 : WRel sy G B w0 ρ ⟨T.set hp0 (.map l' clock) b, nx, d0⟩ { w with heap := w.heap.setIfInBounds i.blk (.map (es'.eraseIdxIfInBounds j) clock) } :=
              hw.update hg rfl p1 p2 (setObj_below p2) (fun k hk => setObj_ne hk) ⟨i, _, p1, p2, setObj_same hblk, by
                rw [Array.eraseIdxIfInBounds, dif_pos (by simpa using hlt), Array.toList_eraseIdx]
                exact hl⟩
            refine ok_val (v' := undef) ?_ (Ren.le_refl _) (by simp only [VRel]; exact ⟨[], rfl, VRels.nil⟩) hw1 hd
            rw [hrun _ rfl]
            simp only [Builtin.delete_, List.getElem?_toArray, List.getElem?_cons_zero, List.getElem?_cons_succ, Sem.run_bind, run_under h1, q2, run_getObj p3 (by simp), Result.andThen, Sem.run_pure, run_checkKey h2 hkd, Instr.findKey, run_under h2, hf, run_setObj p3 (by simp)]
            rfl
    · simp only [VRel] at hm
      refine ok_val (v' := undef) (w' := w) ?_ (Ren.le_refl _) (by simp only [VRel]; exact ⟨[], rfl, VRels.nil⟩) hw hd
      rw [hrun _ rfl]
      simp only [Builtin.delete_, List.getElem?_toArray, List.getElem?_cons_zero, List.getElem?_cons_succ, Sem.run_bind, run_under h1, hm, Result.andThen, Sem.run_pure, run_checkKey h2 hkd]
      rfl

theorem makeMap_ok {t : Nat} {r : Option Operand} (ho : o.op = .makeMap t r) (hs : SR sy G cx ρ env loc a) (hd : DRel sy ρ st.dfs a.defers) (hw : WRel sy G B w0 ρ st w) :
    OpRes sy G B w0 P ρ a o w ((oMakeMap r).f call env loc st) := by
  unfold oMakeMap
  cases r with
  | some x => exact trivial
  | none =>
    obtain ⟨h, n, d⟩ := st
    simp only
    rw [newObj_eq]
    have hw1 : WRel sy G B w0 (ρ.put n ⟨w.heap.size, 0, 0, 0⟩) ⟨T.set h (.map [] 0) n, n + 1, d⟩ (w.alloc (.map #[] 0)) :=
      hw.new rfl ⟨_, #[], Ren.put_same _ _ _, hw.over, alloc_heap _ _, by simp [EntRel]⟩
    refine ok_val (v' := .map (some w.heap.size)) ?_ (Ren.le_put hw.fresh) ?_ hw1 hd
    · simp [execOp, ho, Instr.makeMap]
    · simp only [VRel]
      exact ⟨_, Ren.put_same _ _ _, rfl⟩

theorem wrap_small {n : Nat} (h : n ≤ 9223372036854775807) : IntKind.i64.wrap (Int.ofNat n) = Int.ofNat n := by
  have e : (2 ^ IntKind.i64.bits : Int) = 18446744073709551616 := rfl
  have e2 : (2 ^ (IntKind.i64.bits - 1) : Int) = 9223372036854775808 := rfl
  have h1 : Int.ofNat n % 18446744073709551616 = Int.ofNat n := Int.emod_eq_of_lt (by simp) (by simp only [Int.ofNat_eq_natCast]; omega)
  unfold IntKind.wrap
  simp only [e, e2, h1]
  rw [if_neg]
  simp only [Bool.and_eq_true, decide_eq_true_eq, not_and, Int.ofNat_eq_natCast]
  intro _
  omega
theorem makeSlice_ok {t : Nat} {x y : Operand} (ho : o.op = .makeSlice t x y) (hs : SR sy G cx ρ env loc a) (hd : DRel sy ρ st.dfs a.defers) (hw : WRel sy G B w0 ρ st w) :
    OpRes sy G B w0 P ρ a o w ((oMakeSlice P t (ev cx x) (ev cx y)).f call env loc st) := by
  have hx := evRel hs hw x
  have hy := evRel hs hw y
  unfold oMakeSlice
  cases he : elemOfSlice P t with
  | none => exact trivial
  | some e =>
    have hu := elemOfSlice_spec he
    cases hes : szOf P e with
    | none => simp only [hes]; exact trivial
    | some es =>
      cases hby : byOf P e with
      | none => simp only [hes, hby]; exact trivial
      | some by_ =>
        cases hz : zeroOf P e with
        | none => simp only [hes, hby, hz]; exact trivial
        | some z =>
          simp only [hes, hby, hz]
          cases hc : Nat.beq (len (cellsOf z)) es with
          | false => exact trivial
          | true =>
            have hlen : (cellsOf z).length = es := by rw [← len_eq]; exact Nat.eq_of_beq_eq_true hc
            obtain ⟨zv, z1, z2, z3, _⟩ := run_zero (sy := sy) hz w ρ
            simp only [cond_true]
            unfold makeRow
            generalize (ev cx x).f env loc = u at *
            generalize (ev cx y).f env loc = v at *
            cases u <;> try exact trivial
            rename_i k l
            simp only
            cases l <;> try exact trivial
            rename_i l
            simp only
            cases v <;> try exact trivial
            rename_i k' c
            simp only
            cases c <;> try exact trivial
            rename_i c
            simp only
            cases hk : (decide (k = .i64) && (decide (k' = .i64) && (Nat.ble l c && (Nat.ble (Nat.mul c by_) 281474976710656 && Nat.ble c 9223372036854775807)))) with
            | false => exact trivial
            | true =>
              simp only [Bool.and_eq_true, Nat.ble_eq, decide_eq_true_eq] at hk
              obtain ⟨rfl, rfl, k1, k2, k3⟩ := hk
              have k2' : c * by_ ≤ 281474976710656 := k2
              simp only [cond_true]
              simp only [VRel] at hx hy
              have hcs := cellsOf_rel z3 z2
              have hrep := repL_rel hcs c
              refine newRow_ok hrep hw (arr := (Array.range (c * (cellsOf z).length)).map (fun j => zv.cells[j % zv.cells.size]!)) (elem := e) rfl (fun _ h => by cases h) fun st1 hd1 hle hsame hw1 => ?_
              refine ok_val (v' := .slice (some ⟨w.heap.size, 0, none⟩) l c) (w' := w.alloc (.cells ((Array.range (c * (cellsOf z).length)).map (fun j => zv.cells[j % zv.cells.size]!)) e)) ?_ hle (by simp only [VRel]; exact ⟨_, hsame, by simp⟩) hw1 (by rw [hd1]; exact hd)
              obtain ⟨inf, hinf, hbytes⟩ : ∃ i, P.info? e = some i ∧ i.bytes = by_ := by
                unfold byOf at hby
                cases hi : P.info? e with
                | none => rw [hi] at hby; cases hby
                | some i => rw [hi] at hby; exact ⟨i, rfl, by simpa using hby⟩
              have w1 : IntKind.i64.wrap (Int.ofNat l) = Int.ofNat l := wrap_small (by omega)
              have w2 : IntKind.i64.wrap (Int.ofNat c) = Int.ofNat c := wrap_small (by omega)
              have e1 : ((by_ : Nat) : Int) * Int.ofNat c = ((c * by_ : Nat) : Int) := by rw [Nat.mul_comm]; simp
              have t1 : ¬ ((by_ : Int) * Int.ofNat c > 2 ^ 48) := by rw [e1]; omega
              have t2 : ¬ (Int.ofNat c < 0) := by simp
              have t3 : ¬ (Int.ofNat l < 0) := by simp
              have t4 : ¬ (Int.ofNat l > Int.ofNat c) := by simp only [Int.ofNat_eq_natCast]; omega
              have hrun : (Instr.makeSlice t (.int .i64 (Int.ofNat l)) (.int .i64 (Int.ofNat c))).run P w = .ok (.slice (some ⟨w.heap.size, 0, none⟩) l c) (w.alloc (.cells ((Array.range (c * (cellsOf z).length)).map (fun j => zv.cells[j % zv.cells.size]!)) e)) := by
                unfold Instr.makeSlice
                simp only [Sem.run_bind, run_under hu, Result.andThen, asInt, asIntOf, Sem.run_pure, run_info hinf, hbytes, w1, w2, decide_eq_false t1, decide_eq_false t2, decide_eq_false t3, decide_eq_false t4, Bool.or_self, Bool.or_false, Bool.false_eq_true, if_false, run_askRoom, run_size hes]
                rw [hlen]
                by_cases h0 : c * es = 0
                · have h0' : (Int.ofNat c).toNat * es = 0 := by simpa using h0
                  rw [if_pos h0', h0]
                  have em : ∀ f : Nat → Value, (Array.range 0).map f = #[] := fun f => Array.eq_empty_of_size_eq_zero (by simp)
                  simp [run_newRow, h0, em]
                · have h0' : ¬ (Int.ofNat c).toNat * es = 0 := by simpa using h0
                  rw [if_neg h0']
                  simp [z1, run_newRow]
              simp only [execOp, ho, Sem.run_bind, hx, hy, hrun, Result.andThen, Sem.run_pure]
end
end Go.Proofs.YtbmbjaogcmokoaaGreatDoorX

namespace Go.Proofs.YtbmbjaogcmokoaaGreatDoorX
open Go Go.RowKit
set_option linter.unusedVariables false

section
variable {sy : Sy} {G : Nat} {B : Kp} {w0 : World} {P : Program} {ρ ρ' : Ren} {cx : Cx} {env : List CV} {loc : Loc} {a : Act} {st st' : St} {w w' : World} {o : Oper} {call : Caller}

theorem sliceData_ok {c : Call} {x : Operand} (ho : o.op = .call c) (hc : c.callee = .builtin .unsafeSliceData) (ha : c.args.toList = [x]) (hs : SR sy G cx ρ env loc a) (hd : DRel sy ρ st.dfs a.defers) (hw : WRel sy G B w0 ρ st w) :
    OpRes sy G B w0 P ρ a o w (sliceData ((ev cx x).f env loc) st) := by
  have hx := evRel hs hw x
  have ha' : c.args = #[x] := Array.toList_inj.1 (by simpa using ha)
  have hrun : (execOp a.eval o).run P w = ((Builtin.unsafeSliceData_ c.argTypes o.type #[a.eval x]).run P w).andThen fun v w => .ok (.value v) w := by
    rw [builtin_call (s := do pure (.value (← Builtin.unsafeSliceData_ c.argTypes o.type #[a.eval x]))) ho hc (fun _ => by rw [ha']; simp [builtin])]
    simp
  unfold sliceData
  generalize (ev cx x).f env loc = u at *
  cases u <;> try exact trivial
  · rename_i b ofs l cp q
    simp only
    cases hz : Nat.beq cp 0 with
    | true => exact trivial
    | false =>
      simp only [VRel] at hx
      obtain ⟨i, hi, e⟩ := hx
      have hcp : cp ≠ 0 := fun h => by rw [h] at hz; cases hz
      have hcap : (if q = true then cp + i.ext else cp) ≠ 0 := by
        cases q <;> simp <;> omega
      refine pure_val (v' := .pointer (some ⟨i.blk, ofs + i.sh, none⟩)) ?_ hw hd (by simp only [VRel]; exact ⟨i, hi, rfl⟩)
      rw [hrun, e, Lib.run_unsafeSliceData_row w _ _ _ _ _ hcap]
      rfl
  · simp only [VRel] at hx
    refine pure_val (v' := .pointer none) ?_ hw hd (by simp only [VRel])
    rw [hrun, hx, Lib.run_unsafeSliceData_nil]
    rfl

theorem bytePtr_spec {t e : Nat} (h : bytePtr P t = some e) : P.underlying t = some (.pointer e) ∧ P.cellsOf e = 1 := by
  unfold bytePtr at h
  cases hu : P.underlying t with
  | none => rw [hu] at h; cases h
  | some d =>
    rw [hu] at h
    cases d <;> simp only at h <;> try (cases h; done)
    rename_i e'
    cases hb : isU8 P e' && Nat.beq (P.cellsOf e') 1 with
    | false => rw [hb] at h; cases h
    | true =>
      rw [hb] at h
      cases h
      rw [Bool.and_eq_true] at hb
      exact ⟨rfl, Nat.eq_of_beq_eq_true hb.2⟩

theorem freeze_heap {b n : Nat} {c : Array Value} {e : TypeId} {fz : Nat × Nat} (h : w.heap[b]? = some (.cells c e fz)) (hn : n ≠ 0) :
    w.freeze ⟨b, 0, none⟩ n = { w with heap := w.heap.setIfInBounds b (.cells c e (if fz.1 == fz.2 then (0, n) else (0, max fz.2 n))) } := by
  unfold World.freeze
  rw [if_neg hn]
  congr 1
  apply Array.ext_getElem?
  intro j
  have hb := (Array.getElem?_eq_some_iff.1 h).1
  rw [Array.getElem?_modify, Array.getElem?_setIfInBounds]
  by_cases hj : b = j
  · subst hj
    simp only [if_true, h, Option.map_some, hb]
    obtain ⟨lo, hi⟩ := fz
    simp
  · simp [hj]

theorem unsafeStr_ok {c : Call} {x y : Operand} {t t2 e : Nat} (ho : o.op = .call c) (hc : c.callee = .builtin .unsafeString) (ha : c.args.toList = [x, y]) (ht : c.argTypes.toList = [t, t2]) (he : bytePtr P t = some e)
    (hs : SR sy G cx ρ env loc a) (hd : DRel sy ρ st.dfs a.defers) (hw : WRel sy G B w0 ρ st w) :
    OpRes sy G B w0 P ρ a o w (unsafeStr e ((ev cx x).f env loc) ((ev cx y).f env loc) st) := by
  have hx := evRel hs hw x
  have hy := evRel hs hw y
  obtain ⟨hp, hc1⟩ := bytePtr_spec he
  have ha' : c.args = #[x, y] := Array.toList_inj.1 (by simpa using ha)
  have ht' : c.argTypes = #[t, t2] := Array.toList_inj.1 (by simpa using ht)
  have hrun : (execOp a.eval o).run P w = ((Builtin.unsafeString_ #[t, t2] o.type #[a.eval x, a.eval y]).run P w).andThen fun v w => .ok (.value v) w := by
    rw [builtin_call (s := do pure (.value (← Builtin.unsafeString_ #[t, t2] o.type #[a.eval x, a.eval y]))) ho hc (fun _ => by rw [ha', ht']; simp [builtin])]
    simp
  unfold unsafeStr
  generalize (ev cx x).f env loc = u at *
  generalize (ev cx y).f env loc = v at *
  cases v <;> try exact trivial
  rename_i k z
  cases z with
  | negSucc m => exact trivial
  | ofNat n =>
    cases k <;> try exact trivial
    simp only
    simp only [VRel] at hy
    cases hz : Nat.beq n 0 with
    | true =>
      have hn : n = 0 := Nat.eq_of_beq_eq_true hz
      subst hn
      have hy' : a.eval y = .int .i64 0 := hy
      have none : ∀ p, a.eval x = .pointer p → (execOp a.eval o).run P w = .ok (.value (.string (bytesOf 0 0))) w := fun p hpx => by
        rw [hrun, hpx, hy', Lib.run_unsafeString_none]
        rfl
      simp only [cond_true]
      cases u <;> try exact trivial
      · simp only [VRel] at hx
        obtain ⟨i, _, e'⟩ := hx
        exact pure_val (none _ e') hw hd (by simp only [VRel])
      · simp only [VRel] at hx
        exact pure_val (none _ hx) hw hd (by simp only [VRel])
    | false =>
      have hn : n ≠ 0 := fun h => by rw [h] at hz; cases hz
      simp only [cond_false]
      unfold strAt
      cases u <;> try exact trivial
      rename_i b ofs
      simp only
      cases hg : st.heap.get b with
      | none => exact trivial
      | some ob =>
        simp only
        cases ob <;> try exact trivial
        rename_i cells m es fr inf
        simp only
        cases hty : inf.ty with
        | none => exact trivial
        | some t' =>
          simp only
          cases hcd : Nat.beq t' e && (Nat.beq ofs 0 && (inf.z && (inf.low && (Nat.ble n m && Nat.ble n 4294967296)))) with
          | false => exact trivial
          | true =>
            simp only [Bool.and_eq_true, Nat.beq_eq, Nat.ble_eq] at hcd
            obtain ⟨d1, d2, d3, d4, d5, d6⟩ := hcd
            simp only [cond_true]
            cases hl : loadN cells n 0 with
            | none => exact trivial
            | some cs =>
              obtain ⟨i, c0, e0, fz, k1, k2, k3, k4, k5, k6, k7⟩ := hw.obj b _ hg
              have z1 := k3.2.1 t' hty
              have z2 := k3.2.2.1 d3
              have z4 := k3.2.2.2.2 d4
              have d1' : t' = e := by simpa using d1
              have d2' : ofs = 0 := by simpa using d2
              subst d1'
              subst d2'
              subst z1
              simp only [VRel] at hx
              obtain ⟨i', q1, q2⟩ := hx
              rw [k1] at q1; cases q1
              obtain ⟨l', p1, p2, p3⟩ := loadN_rel (fun j v hj => (k6 j v hj).2) hl
              simp only
              generalize hr : packC cs _ = r
              rcases packC_rel cs l' _ _ p2 hr with ⟨k, rfl⟩ | ⟨s, hr2, hv⟩
              · exact trivial
              · rw [← hr2, forceN_eq]
                obtain ⟨hp0, nx, d0⟩ := st
                rw [setObj_eq]
                have hcl : cs.length = n := by rw [← p2.length]; exact p1
                rw [hcl] at hv
                have hblk : i.blk < w.heap.size := (Array.getElem?_eq_some_iff.1 k4).1
                have hsz : c0.size ≥ n := by
                  have := k5
                  omega
                have hfr : (bif Nat.ble fr n then n else fr) = max fr n := by
                  cases hb : Nat.ble fr n with
                  | true =>
                    have : fr ≤ n := by simpa [Nat.ble_eq] using hb
                    simp; omega
                  | false =>
                    have : ¬ fr ≤ n := fun h => by
                      have h2 : Nat.ble fr n = true := by simpa [Nat.ble_eq] using h
                      rw [h2] at hb; cases hb
                    simp; omega
                rw [hfr]
                have hfre := freeze_heap (w := w) k4 hn
                have hlow : (if (fz.1 == fz.2) = true then (0, n) else (0, max fz.2 n)).2 ≤ max fr n := by
                  by_cases hq : fz.1 = fz.2
                  · simp [hq]; omega
                  · have hq' : (fz.1 == fz.2) = false := by simpa using hq
                    rw [hq']
                    simp only [Bool.false_eq_true, if_false]
                    rcases z4 with h | h
                    · exact absurd h hq
                    · omega
                have hw1 : WRel sy G B w0 ρ ⟨T.set hp0 (.row cells m es (max fr n) inf) b, nx, d0⟩ (w.freeze ⟨i.blk, 0, none⟩ n) := by
                  rw [hfre]
                  refine hw.update hg rfl k1 k2 (setObj_below k2) (fun k hk => setObj_ne hk) ⟨i, c0, e0, _, k1, k2, ⟨k3.1, k3.2.1, k3.2.2.1, k3.2.2.2.1, fun _ => .inr ?_⟩, setObj_same hblk, k5, k6, fun j hj1 hj2 => ?_⟩
                  · rw [z2, Nat.add_zero]; exact hlow
                  · rw [z2, Nat.add_zero]
                    intro hh
                    have := hh.2
                    have := hlow
                    omega
                refine ok_val (v' := .string (bytesOf n s)) ?_ (Ren.le_refl _) (by simp only [VRel]) hw1 hd
                have hlen : (bytesL n s).length = n := bytesL_length n s
                have hus := Lib.run_unsafeString_row (P := P) w t t2 o.type e0 hp hc1 i.blk c0.size (by simp [World.shape?, k4]) (bytesL n s) (fun h => by rw [h] at hlen; exact hn hlen.symm) (by rw [hlen]; exact hsz) (by rw [hlen]; omega)
                  (fun j x hj => by
                    have hjn : j < n := by
                      have := (List.getElem?_eq_some_iff.1 hj).1
                      rw [hlen] at this; exact this
                    have h1 := p3 j hjn
                    rw [hv, List.getElem?_map, hj] at h1
                    rw [addr_add, cell_row k4]
                    rw [z2] at h1
                    simpa using h1)
                rw [hlen] at hus
                rw [hrun, q2, hy]
                have e1 : (⟨i.blk, 0 + i.sh, none⟩ : Addr) = ⟨i.blk, 0, none⟩ := by rw [z2]
                rw [e1]
                have e2 : (Value.int .i64 (Int.ofNat n)) = .int .i64 (n : Int) := rfl
                rw [e2, hus]
                rfl
end
end Go.Proofs.YtbmbjaogcmokoaaGreatDoorX
