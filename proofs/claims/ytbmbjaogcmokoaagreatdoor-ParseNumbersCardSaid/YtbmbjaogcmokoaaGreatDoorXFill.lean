/- Literals: parts laid over a zero value. -/
import Derived.Test.YtbmbjaogcmokoaaGreatDoorXOps2
import Derived.Laws.Tables
namespace Go.Proofs.YtbmbjaogcmokoaaGreatDoorX
open Go Go.RowKit
set_option linter.unusedVariables false

theorem over_nil (l : List CV) (off : Nat) : over [] l off = [] := rfl
theorem over_zero_nil (c : CV) (cs : List CV) : over (c :: cs) [] 0 = c :: over cs [] 0 := rfl
theorem over_zero_cons (c x : CV) (cs l : List CV) : over (c :: cs) (x :: l) 0 = x :: over cs l 0 := rfl
theorem over_succ (c : CV) (cs l : List CV) (m : Nat) : over (c :: cs) l (m + 1) = c :: over cs l m := by cases l <;> rfl
theorem over_length : ∀ (cs l : List CV) (off : Nat), (over cs l off).length = cs.length
  | [], l, off => by simp [over_nil]
  | c :: cs, l, off + 1 => by rw [over_succ]; simp [over_length cs l off]
  | c :: cs, [], 0 => by rw [over_zero_nil]; simp [over_length cs [] 0]
  | c :: cs, x :: l, 0 => by rw [over_zero_cons]; simp [over_length cs l 0]
theorem over_get : ∀ (cs l : List CV) (off j : Nat), off + l.length ≤ cs.length → (over cs l off)[j]? = if off ≤ j ∧ j < off + l.length then l[j - off]? else cs[j]?
  | [], l, off, j, h => by
    have : l = [] := List.length_eq_zero_iff.1 (by simp only [List.length_nil] at h; omega)
    subst this
    rw [over_nil, if_neg (by simp)]
  | c :: cs, l, off + 1, j, h => by
    rw [over_succ]
    cases j with
    | zero => simp
    | succ j =>
      rw [List.getElem?_cons_succ, over_get cs l off j (by simp at h; omega)]
      by_cases hc : off ≤ j ∧ j < off + l.length
      · rw [if_pos hc, if_pos (by omega), Nat.add_sub_add_right]
      · rw [if_neg hc, if_neg (by omega), List.getElem?_cons_succ]
  | c :: cs, [], 0, j, h => by
    rw [over_zero_nil]
    cases j with
    | zero => simp
    | succ j =>
      rw [List.getElem?_cons_succ, over_get cs [] 0 j (by simp)]
      simp
  | c :: cs, x :: l, 0, j, h => by
    rw [over_zero_cons]
    cases j with
    | zero => simp
    | succ j =>
      rw [List.getElem?_cons_succ, over_get cs l 0 j (by simp at h ⊢; omega)]
      by_cases hc : 0 ≤ j ∧ j < 0 + l.length
      · rw [if_pos hc, if_pos (by simp; omega)]
        simp
      · rw [if_neg hc, if_neg (by simp; omega), List.getElem?_cons_succ]

theorem fold_set (off : Nat) : ∀ (l : List Value) (k : Nat) (arr : Array Value), (l.zipIdx k).foldl (fun (cs : Array Value) (p : Value × Nat) => cs.setIfInBounds (off + p.2) p.1) arr =
    (l.zipIdx k).foldl (fun (cs : Array Value) (p : Value × Nat) => cs.setIfInBounds (off + p.2) p.1) arr ∧
    ((l.zipIdx k).foldl (fun (cs : Array Value) (p : Value × Nat) => cs.setIfInBounds (off + p.2) p.1) arr).size = arr.size ∧
    (off + k + l.length ≤ arr.size → ∀ j : Nat, ((l.zipIdx k).foldl (fun (cs : Array Value) (p : Value × Nat) => cs.setIfInBounds (off + p.2) p.1) arr)[j]? =
      if off + k ≤ j ∧ j < off + k + l.length then l[j - (off + k)]? else arr[j]?)
  | [], k, arr => ⟨rfl, rfl, fun _ j => by rw [if_neg (by simp)]; rfl⟩
  | v :: l, k, arr => by
    obtain ⟨_, h2, h3⟩ := fold_set off l (k + 1) (arr.setIfInBounds (off + k) v)
    refine ⟨rfl, ?_, fun hs j => ?_⟩
    · simp only [List.zipIdx_cons, List.foldl_cons]
      rw [h2]; simp
    · simp only [List.zipIdx_cons, List.foldl_cons]
      rw [h3 (by simp at hs ⊢; omega) j]
      have hs' : off + k + (l.length + 1) ≤ arr.size := by simpa using hs
      by_cases hj : j = off + k
      · subst hj
        rw [if_neg (by omega), if_pos (by simp), Array.getElem?_setIfInBounds]
        simp
        omega
      · rw [Array.getElem?_setIfInBounds, if_neg (Ne.symm hj)]
        by_cases hc : off + (k + 1) ≤ j ∧ j < off + (k + 1) + l.length
        · rw [if_pos hc, if_pos (by simp; omega), show j - (off + k) = (j - (off + (k + 1))) + 1 by omega]
          simp
        · rw [if_neg hc, if_neg (by simp; omega)]

section
variable {sy : Sy} {G : Nat} {B : Kp} {w0 : World} {P : Program} {ρ ρ' : Ren} {cx : Cx} {env : List CV} {loc : Loc} {a : Act} {st st' : St} {w w' : World} {o : Oper} {call : Caller}

theorem over_rel {cs l : List CV} {vs ls : List Value} {off : Nat} (h : VRels sy ρ cs vs) (k : VRels sy ρ l ls) (hs : off + l.length ≤ cs.length) :
    VRels sy ρ (over cs l off) (((ls.zipIdx 0).foldl (fun (cs : Array Value) (p : Value × Nat) => cs.setIfInBounds (off + p.2) p.1) vs.toArray).toList) := by
  obtain ⟨_, h2, h3⟩ := fold_set off ls 0 vs.toArray
  have e1 := h.length
  have e2 := k.length
  refine VRels.of_get (by rw [Array.length_toList, h2, over_length]; simpa using e1) fun j v v' hv hv' => ?_
  rw [over_get _ _ _ _ hs] at hv
  rw [Array.getElem?_toList, h3 (by simp; omega)] at hv'
  by_cases hc : off ≤ j ∧ j < off + l.length
  · rw [if_pos hc] at hv
    rw [if_pos (by omega)] at hv'
    obtain ⟨u, q1, q2⟩ := k.get _ _ hv
    rw [Nat.add_zero, q1] at hv'
    cases hv'
    exact q2
  · rw [if_neg hc] at hv
    rw [if_neg (by omega)] at hv'
    obtain ⟨u, q1, q2⟩ := h.get _ _ hv
    rw [List.getElem?_toArray, q1] at hv'
    cases hv'
    exact q2

theorem fill_rel {place : Nat → Option (Nat × Nat)} {K : List CV → RV} {r : RV} (hs : SR sy G cx ρ env loc a) (hw : WRel sy G B w0 ρ st w) :
    ∀ (parts : List (Nat × Operand)) (size : Nat) (cs : List CV) (vs : Array Value), cs.length = size → VRels sy ρ cs vs.toList → (fillF place cx parts size).f cs env loc K = r →
      (∃ k, r = .err k) ∨ ∃ cs' vs', K cs' = r ∧ cs'.length = size ∧ VRels sy ρ cs' vs'.toList ∧ Instr.fill place vs (parts.map fun p => (p.1, a.eval p.2)) = some vs'
  | [], size, cs, vs, hl, hv, hr => .inr ⟨cs, vs, hr, hl, hv, rfl⟩
  | (i, x) :: rest, size, cs, vs, hl, hv, hr => by
    unfold fillF at hr
    cases hp : place i with
    | none => rw [hp] at hr; exact .inl ⟨_, hr.symm⟩
    | some on =>
      obtain ⟨off, n⟩ := on
      rw [hp] at hr
      simp only at hr
      cases hb : Nat.ble (Nat.add off n) size with
      | false => rw [hb] at hr; exact .inl ⟨_, hr.symm⟩
      | true =>
        rw [hb] at hr
        simp only [cond_true] at hr
        have hx := evRel hs hw x
        generalize (ev cx x).f env loc = v at *
        cases hc : (Nat.beq (len (cellsOf v)) n && (cellsOf v).all oneCell) with
        | false => rw [hc] at hr; exact .inl ⟨_, hr.symm⟩
        | true =>
          rw [hc] at hr
          simp only [cond_true] at hr
          simp only [Bool.and_eq_true, Nat.beq_eq, len_eq] at hc
          have hu : v ≠ .unk := fun e => by subst e; simp [cellsOf, oneCell] at hc
          have hcs := cellsOf_rel hu hx
          have hble : off + n ≤ size := by simpa [Nat.ble_eq] using hb
          have hol := over_rel (off := off) hv hcs (by omega)
          have hlen := hcs.length
          have hvl := hv.length
          rcases fill_rel hs hw rest size _ _ (by rw [over_length]; exact hl) hol hr with h | ⟨cs', vs', h1, h2, h3, h4⟩
          · exact .inl h
          · refine .inr ⟨cs', vs', h1, h2, h3, ?_⟩
            simp only [List.map_cons, Instr.fill, hp]
            have hsz : (a.eval x).cells.size = n := by rw [← Array.length_toList]; omega
            have hsz2 : vs.size = size := by rw [← Array.length_toList]; omega
            rw [if_neg (by simp [hsz, hsz2]; omega)]
            rw [← h4]
            congr 1
            rw [← Array.foldl_toList]
            simp

theorem places_eq : ∀ {fs : List Field} {l : List (Nat × Nat)}, placesOf P fs = some l → fs.mapM (fun f => (P.info? f.type).map fun i => (f.offset, i.size)) = some l
  | [], l, h => by simpa [placesOf] using h
  | f :: fs, l, h => by
    unfold placesOf at h
    cases hi : P.info? f.type with
    | none => simp [hi] at h
    | some i =>
      cases hr : placesOf P fs with
      | none => simp [hi, hr] at h
      | some rest =>
        simp [hi, hr] at h
        subst h
        have := places_eq hr
        simp [List.mapM_cons, hi, this]

theorem zero_info {t : Nat} {z : CV} (h : zeroOf P t = some z) : ∃ i v, P.info? t = some i ∧ i.zero = some v ∧ VRel sy ρ z v ∧ z ≠ .unk := by
  unfold zeroOf at h
  cases hi : P.info? t with
  | none => rw [hi] at h; cases h
  | some i =>
    rw [hi] at h
    simp only at h
    cases hz : i.zero with
    | none => rw [hz] at h; cases h
    | some v =>
      rw [hz] at h
      obtain ⟨rfl, h2, h3⟩ := sound1_spec h
      exact ⟨i, v, rfl, hz, ofValue_rel v, h2⟩

theorem buildF_ok {t : Nat} {parts : Array (Nat × Operand)} {place : Nat → Option (Nat × Nat)} {z : CV} {v : Value} (ho : o.op = .build t parts) (hs : SR sy G cx ρ env loc a)
    (hd : DRel sy ρ st.dfs a.defers) (hw : WRel sy G B w0 ρ st w) (hz : VRel sy ρ z v) (hu : z ≠ .unk)
    (hb : ∀ l vs', Instr.fill place v.cells l = some vs' → P.built t l = some vs') :
    OpRes sy G B w0 P ρ a o w ((buildF cx (cellsOf z) place parts.toList).f call env loc st) := by
  unfold buildF
  simp only
  generalize hr : (fillF place cx parts.toList (len (cellsOf z))).f (cellsOf z) env loc (fun l => RV.ok (.agg l) st) = r
  rcases fill_rel hs hw parts.toList _ (cellsOf z) v.cells (len_eq _).symm (cellsOf_rel hu hz) hr with ⟨k, rfl⟩ | ⟨cs', vs', rfl, h2, h3, h4⟩
  · exact trivial
  · refine pure_val (v' := .agg vs') ?_ hw hd (by simp only [VRel]; exact ⟨vs'.toList, by simp, h3⟩)
    have := run_build (P := P) w t (parts.map fun p => (p.1, a.eval p.2)) vs' (hb _ _ (by simpa using h4))
    simp [execOp, ho]
    have e : (parts.map fun x => match x with | (i, x) => (i, a.eval x)) = parts.map fun p => (p.1, a.eval p.2) := rfl
    rw [e, this]
    rfl

theorem build_ok {t : Nat} {parts : Array (Nat × Operand)} (ho : o.op = .build t parts) (hs : SR sy G cx ρ env loc a) (hd : DRel sy ρ st.dfs a.defers) (hw : WRel sy G B w0 ρ st w) :
    OpRes sy G B w0 P ρ a o w ((oBuild P cx t parts.toList).f call env loc st) := by
  unfold oBuild
  cases hz : zeroOf P t with
  | none => exact trivial
  | some z =>
    obtain ⟨i, v, h1, h2, h3, h4⟩ := zero_info (sy := sy) (ρ := ρ) hz
    cases hd' : P.underlying t with
    | none => exact trivial
    | some d =>
      simp only
      cases d <;> try exact trivial
      · rename_i n e
        cases hn : szOf P e with
        | none => simp only [hn]; exact trivial
        | some n' =>
          simp only [hn]
          refine buildF_ok ho hs hd hw h3 h4 fun l vs' hf => ?_
          unfold szOf at hn
          cases he : P.info? e with
          | none => rw [he] at hn; cases hn
          | some ie =>
            rw [he] at hn
            cases hn
            simp only [Program.built, h1, hd', h2, he]
            exact hf
      · rename_i fs
        cases hp : placesOf P fs.toList with
        | none => simp only [hp]; exact trivial
        | some ps =>
          simp only [hp]
          refine buildF_ok ho hs hd hw h3 h4 fun l vs' hf => ?_
          simp only [Program.built, h1, hd', h2, places_eq hp]
          simpa using hf
end
end Go.Proofs.YtbmbjaogcmokoaaGreatDoorX
