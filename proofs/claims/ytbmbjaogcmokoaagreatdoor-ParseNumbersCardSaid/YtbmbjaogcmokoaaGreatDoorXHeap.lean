/- The executor's heap beside the model's: what is read, stored and made. -/
import Derived.Test.YtbmbjaogcmokoaaGreatDoorXRel
namespace Go.Proofs.YtbmbjaogcmokoaaGreatDoorX
open Go Go.RowKit
set_option linter.unusedVariables false

/-! ## Trees -/
section
variable {α : Type}
theorem T.get_node_zero (v : Option α) (a b c d : T α) : (T.node v a b c d).get 0 = v := rfl
theorem T.get_node_succ (v : Option α) (a b c d : T α) (m : Nat) : (T.node v a b c d).get (m + 1) = T.pick a.get b.get c.get d.get (m % 4) (m / 4) := rfl
theorem T.get_nil (n : Nat) : (T.nil : T α).get n = none := rfl
theorem T.pick0 {β : Type} (a b c d : β) : T.pick a b c d 0 = a := rfl
theorem T.pick1 {β : Type} (a b c d : β) : T.pick a b c d 1 = b := rfl
theorem T.pick2 {β : Type} (a b c d : β) : T.pick a b c d 2 = c := rfl
theorem T.pick3 {β : Type} (a b c d : β) : T.pick a b c d 3 = d := rfl
theorem mod4 (m : Nat) : m % 4 = 0 ∨ m % 4 = 1 ∨ m % 4 = 2 ∨ m % 4 = 3 := by omega

theorem T.single_zero (x : α) (f : Nat) : T.single x (f + 1) 0 = .node (some x) .nil .nil .nil .nil := rfl
theorem T.single_succ (x : α) (f m : Nat) : T.single x (f + 1) (m + 1) =
    T.pick (fun s => .node none s .nil .nil .nil) (fun s => .node none .nil s .nil .nil) (fun s => .node none .nil .nil s .nil) (fun s => .node none .nil .nil .nil s) (m % 4) (T.single x f (m / 4)) := rfl
theorem T.set_nil (x : α) (n : Nat) : T.set .nil x n = T.single x (n + 1) n := rfl
theorem T.set_node_zero (x : α) (v : Option α) (a b c d : T α) : T.set (.node v a b c d) x 0 = .node (some x) a b c d := rfl
theorem T.set_node_succ (x : α) (v : Option α) (a b c d : T α) (m : Nat) : T.set (.node v a b c d) x (m + 1) =
    T.pick (fun q => .node v (a.set x q) b c d) (fun q => .node v a (b.set x q) c d) (fun q => .node v a b (c.set x q) d) (fun q => .node v a b c (d.set x q)) (m % 4) (m / 4) := rfl

theorem T.get_single (x : α) : ∀ (f n : Nat), n < f → ∀ k, (T.single x f n).get k = if k = n then some x else none := by
  intro f
  induction f with
  | zero => intro n h; omega
  | succ f ih =>
    intro n h k
    cases n with
    | zero =>
      rw [T.single_zero]
      cases k with
      | zero => rfl
      | succ k =>
        rw [T.get_node_succ, if_neg (by omega)]
        rcases mod4 k with e | e | e | e <;> rw [e] <;> rfl
    | succ m =>
      rw [T.single_succ]
      have hm := ih (m / 4) (by omega)
      cases k with
      | zero =>
        rw [if_neg (by omega)]
        rcases mod4 m with e | e | e | e <;> rw [e] <;> rfl
      | succ j =>
        have key : (j + 1 = m + 1) ↔ (j % 4 = m % 4 ∧ j / 4 = m / 4) := by omega
        simp only [key]
        rcases mod4 m with e | e | e | e <;> rcases mod4 j with e' | e' | e' | e' <;> rw [e] <;>
          simp only [T.pick0, T.pick1, T.pick2, T.pick3, T.get_node_succ, e', T.get_nil, hm] <;> simp

theorem T.get_set (x : α) (t : T α) : ∀ (n k : Nat), (T.set t x n).get k = if k = n then some x else t.get k := by
  induction t with
  | nil => intro n k; rw [T.set_nil, T.get_single x _ _ (by omega)]; rfl
  | node v a b c d ia ib ic id =>
    intro n k
    cases n with
    | zero =>
      rw [T.set_node_zero]
      cases k with
      | zero => rfl
      | succ k => rw [T.get_node_succ, T.get_node_succ]; simp
    | succ m =>
      rw [T.set_node_succ]
      cases k with
      | zero =>
        rw [if_neg (by omega)]
        rcases mod4 m with e | e | e | e <;> rw [e] <;> rfl
      | succ j =>
        have key : (j + 1 = m + 1) ↔ (j % 4 = m % 4 ∧ j / 4 = m / 4) := by omega
        simp only [key]
        rcases mod4 m with e | e | e | e <;> rcases mod4 j with e' | e' | e' | e' <;> rw [e] <;>
          simp only [T.pick0, T.pick1, T.pick2, T.pick3, T.get_node_succ, e', ia, ib, ic, id] <;> simp
end

theorem len_eq (l : List CV) : len l = l.length := by
  induction l with
  | nil => rfl
  | cons x l ih => show Nat.succ (len l) = _; rw [ih]; rfl
theorem forceN_eq {β : Type} (k : Nat → β) (n : Nat) : forceN k n = k n := by cases n <;> rfl
theorem forceI_eq {β : Type} (k : Int → β) (n : Int) : forceI k n = k n := by
  cases n with
  | ofNat m => cases m <;> rfl
  | negSucc m => cases m <;> rfl

theorem rowOf_get : ∀ (l : List CV) (i : Nat) (t : T CV) (j : Nat), (rowOf l i t).get j = if i ≤ j ∧ j < i + l.length then l[j - i]? else t.get j
  | [], i, t, j => by simp [rowOf]; intro h1 h2; omega
  | c :: l, i, t, j => by
    show (rowOf l (i + 1) (T.set t c i)).get j = _
    rw [rowOf_get l, T.get_set]
    by_cases h : j = i
    · subst h
      rw [if_neg (by omega), if_pos rfl, if_pos (by simp)]
      simp
    · by_cases h2 : i + 1 ≤ j ∧ j < i + 1 + l.length
      · have h3 : i ≤ j ∧ j < i + (c :: l).length := by simp; omega
        rw [if_pos h2, if_pos h3]
        have : j - i = (j - (i + 1)) + 1 := by omega
        rw [this]; rfl
      · have h3 : ¬ (i ≤ j ∧ j < i + (c :: l).length) := by simp; omega
        rw [if_neg h2, if_neg h3, if_neg h]

theorem storeL_get : ∀ (l : List CV) (t : T CV) (o j : Nat), (storeL l t o).get j = if o ≤ j ∧ j < o + l.length then l[j - o]? else t.get j
  | [], t, o, j => by simp [storeL]; intro h1 h2; omega
  | c :: l, t, o, j => by
    show (storeL l (T.set t c o) (o + 1)).get j = _
    rw [storeL_get l, T.get_set]
    by_cases h : j = o
    · subst h
      rw [if_neg (by omega), if_pos rfl, if_pos (by simp)]
      simp
    · by_cases h2 : o + 1 ≤ j ∧ j < o + 1 + l.length
      · have h3 : o ≤ j ∧ j < o + (c :: l).length := by simp; omega
        rw [if_pos h2, if_pos h3]
        have : j - o = (j - (o + 1)) + 1 := by omega
        rw [this]; rfl
      · have h3 : ¬ (o ≤ j ∧ j < o + (c :: l).length) := by simp; omega
        rw [if_neg h2, if_neg h3, if_neg h]

theorem loadN_get : ∀ (t : T CV) (n o : Nat) (l : List CV), loadN t n o = some l → l.length = n ∧ ∀ j, j < n → t.get (o + j) = l[j]?
  | t, 0, o, l, h => by
    have h' : some [] = some l := h
    have : l = [] := (Option.some.inj h').symm
    subst this; simp
  | t, n + 1, o, l, h => by
    have h' : (Option.rec (motive := fun _ => Option (List CV)) none (fun v => Option.rec (motive := fun _ => Option (List CV)) none (fun l => some (v :: l)) (loadN t n (o + 1))) (t.get o) : Option (List CV)) = some l := h
    cases hg : t.get o with
    | none => rw [hg] at h'; simp at h'
    | some v =>
      rw [hg] at h'
      simp only at h'
      cases hr : loadN t n (o + 1) with
      | none => rw [hr] at h'; simp at h'
      | some r =>
        rw [hr] at h'
        simp only [Option.some.injEq] at h'
        subst h'
        obtain ⟨h1, h2⟩ := loadN_get t n (o + 1) r hr
        refine ⟨by simp [h1], fun j hj => ?_⟩
        cases j with
        | zero => simpa using hg
        | succ j => have := h2 j (by omega); rw [← Nat.add_assoc, Nat.add_right_comm] ; simpa using this

/-! ## The model's memory: rows of cells -/
section
variable {P : Program}
theorem addr_add (b o n : Nat) : (⟨b, o, none⟩ : Addr).add n = ⟨b, o + n, none⟩ := by
  unfold Addr.add; split
  · subst n; rfl
  · rfl
theorem cell_row {w : World} {b o : Nat} {c : Array Value} {e : TypeId} {fz : Nat × Nat} (h : w.heap[b]? = some (.cells c e fz)) : w.cell? ⟨b, o, none⟩ = c[o]? := by
  simp [World.cell?, h]
theorem frozen_row {w : World} {b o : Nat} {c : Array Value} {e : TypeId} {fz : Nat × Nat} (h : w.heap[b]? = some (.cells c e fz)) (hf : ¬ (fz.1 ≤ o ∧ o < fz.2)) : w.frozen? ⟨b, o, none⟩ = false := by
  obtain ⟨lo, hi⟩ := fz
  simp only [World.frozen?, h]
  simp only at hf
  rcases Nat.lt_or_ge o lo with h1 | h1
  · have : ¬ lo ≤ o := by omega
    simp [this]
  · have : ¬ o < hi := by omega
    simp [this]

/-- w with another row of cells in block b -/
def setRow (w : World) (b : Nat) (c : Array Value) (e : TypeId) (fz : Nat × Nat) : World := { w with heap := w.heap.setIfInBounds b (.cells c e fz) }
theorem setCell_row {w : World} {b o : Nat} {c : Array Value} {e : TypeId} {fz : Nat × Nat} (h : w.heap[b]? = some (.cells c e fz)) (v : Value) :
    w.setCell ⟨b, o, none⟩ v = setRow w b (c.setIfInBounds o v) e fz := by
  obtain ⟨hb, hv⟩ := Array.getElem?_eq_some_iff.1 h
  unfold World.setCell setRow
  congr 1
  apply Array.ext_getElem?
  intro j
  simp only [Array.getElem?_modify, Array.getElem?_setIfInBounds]
  by_cases hj : b = j
  · subst hj
    simp [hb, hv]
  · simp [hj]
theorem setRow_heap_same {w : World} {b : Nat} (hb : b < w.heap.size) (c : Array Value) (e : TypeId) (fz : Nat × Nat) : (setRow w b c e fz).heap[b]? = some (.cells c e fz) := by
  simp [setRow, hb]
theorem setRow_heap_ne {w : World} {b j : Nat} (h : j ≠ b) (c : Array Value) (e : TypeId) (fz : Nat × Nat) : (setRow w b c e fz).heap[j]? = w.heap[j]? := by
  simp [setRow, Ne.symm h]
theorem setRow_setRow (w : World) (b : Nat) (c c' : Array Value) (e : TypeId) (fz : Nat × Nat) : setRow (setRow w b c e fz) b c' e fz = setRow w b c' e fz := by
  simp [setRow]
theorem setRow_self {w : World} {b : Nat} {c : Array Value} {e : TypeId} {fz : Nat × Nat} (h : w.heap[b]? = some (.cells c e fz)) : setRow w b c e fz = w := by
  obtain ⟨hb, hv⟩ := Array.getElem?_eq_some_iff.1 h
  unfold setRow
  congr 1
  apply Array.ext_getElem?
  intro j
  rw [Array.getElem?_setIfInBounds]
  by_cases hj : b = j
  · subst hj; simp [hb, hv]
  · simp [hj]
theorem setRow_size (w : World) (b : Nat) (c : Array Value) (e : TypeId) (fz : Nat × Nat) : (setRow w b c e fz).heap.size = w.heap.size := by simp [setRow]

theorem run_load_row {w : World} {b o : Nat} {c : Array Value} {e : TypeId} {fz : Nat × Nat} {v : Value} (h : w.heap[b]? = some (.cells c e fz)) (hv : c[o]? = some v) :
    (load ⟨b, o, none⟩).run P w = .ok v w := by
  simp [load, Sem.run, cell_row h, hv]

theorem run_loadCellsFrom {w : World} {b : Nat} {c : Array Value} {e : TypeId} {fz : Nat × Nat} (h : w.heap[b]? = some (.cells c e fz)) :
    ∀ (n o i : Nat) (acc : Array Value) (l : List Value), l.length = n → (∀ j, j < n → c[o + i + j]? = l[j]?) →
      (loadCellsFrom ⟨b, o, none⟩ i n acc).run P w = .ok (acc ++ l.toArray) w
  | 0, o, i, acc, l, hl, _ => by
    have : l = [] := List.length_eq_zero_iff.1 hl
    subst this
    simp [loadCellsFrom]
  | n + 1, o, i, acc, l, hl, hc => by
    cases l with
    | nil => simp at hl
    | cons x l =>
      have h0 := hc 0 (by omega)
      simp only [Nat.add_zero, List.getElem?_cons_zero] at h0
      have ih := run_loadCellsFrom h n o (i + 1) (acc.push x) l (by simpa using hl) (fun j hj => by
        have := hc (j + 1) (by omega)
        rw [show o + (i + 1) + j = o + i + (j + 1) by omega, this]; simp)
      simp only [loadCellsFrom, addr_add, Sem.run_bind, run_load_row h h0, Result.andThen]
      rw [ih]
      simp
theorem run_loadCells {w : World} {b o : Nat} {c : Array Value} {e : TypeId} {fz : Nat × Nat} (h : w.heap[b]? = some (.cells c e fz)) (l : List Value)
    (hc : ∀ j, j < l.length → c[o + j]? = l[j]?) : (loadCells ⟨b, o, none⟩ l.length).run P w = .ok l.toArray w := by
  have := run_loadCellsFrom (P := P) h l.length o 0 #[] l rfl (by simpa using hc)
  simpa [loadCells] using this

theorem run_storeCells : ∀ (vs : List Value) (w : World) (b o i : Nat) (c : Array Value) (e : TypeId) (fz : Nat × Nat), w.heap[b]? = some (.cells c e fz) →
    o + i + vs.length ≤ c.size → (∀ j, j < vs.length → ¬ (fz.1 ≤ o + i + j ∧ o + i + j < fz.2)) → (∀ v, v ∈ vs → isOne v = true) →
    ∃ c', c'.size = c.size ∧ (storeCells ⟨b, o, none⟩ vs i).run P w = .ok () (setRow w b c' e fz) ∧
      ∀ j, c'[j]? = if o + i ≤ j ∧ j < o + i + vs.length then vs[j - (o + i)]? else c[j]?
  | [], w, b, o, i, c, e, fz, h, _, _, _ => ⟨c, rfl, by simp [storeCells, setRow_self h], fun j => by rw [if_neg (by simp)]⟩
  | v :: vs, w, b, o, i, c, e, fz, h, hs, hf, h1 => by
    have hb : b < w.heap.size := (Array.getElem?_eq_some_iff.1 h).1
    have hlt : o + i < c.size := by simp at hs; omega
    have hfz := hf 0 (by simp)
    rw [Nat.add_zero] at hfz
    obtain ⟨c', hsz, hrun, hget⟩ := run_storeCells vs (setRow w b (c.setIfInBounds (o + i) v) e fz) b o (i + 1) (c.setIfInBounds (o + i) v) e fz (setRow_heap_same hb _ _ _)
      (by simp at hs ⊢; omega) (fun j hj => by
        have := hf (j + 1) (by simp; omega)
        rw [show o + (i + 1) + j = o + i + (j + 1) by omega]; exact this) (fun v hv => h1 v (by simp [hv]))
    refine ⟨c', by simpa using hsz, ?_, fun j => ?_⟩
    · have hst : (store ⟨b, o + i, none⟩ v).run P w = .ok () (setRow w b (c.setIfInBounds (o + i) v) e fz) := by
        have hone := h1 v (by simp)
        have hcell : w.cell? ⟨b, o + i, none⟩ = some c[o + i] := by rw [cell_row h]; simp [hlt]
        have hfr := frozen_row h hfz
        cases v <;> simp [isOne] at hone <;> simp [store, Sem.run, hcell, hfr, setCell_row h]
      simp only [storeCells, addr_add, Sem.run_bind, hst, Result.andThen, hrun, setRow_setRow]
    · rw [hget j]
      by_cases hj : j = o + i
      · subst hj
        rw [if_neg (by omega), if_pos (by simp)]
        simp [hlt]
      · by_cases h2 : o + (i + 1) ≤ j ∧ j < o + (i + 1) + vs.length
        · rw [if_pos h2, if_pos (by simp; omega)]
          rw [show j - (o + i) = (j - (o + (i + 1))) + 1 by omega]
          simp
        · rw [if_neg h2, if_neg (by simp; omega)]
          rw [Array.getElem?_setIfInBounds, if_neg (Ne.symm hj)]
end
end Go.Proofs.YtbmbjaogcmokoaaGreatDoorX
