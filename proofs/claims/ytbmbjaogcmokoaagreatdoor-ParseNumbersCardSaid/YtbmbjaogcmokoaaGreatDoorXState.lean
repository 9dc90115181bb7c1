/- The executor's state beside the model's world. -/
import Derived.Test.YtbmbjaogcmokoaaGreatDoorXHeap
namespace Go.Proofs.YtbmbjaogcmokoaaGreatDoorX
open Go Go.RowKit
set_option linter.unusedVariables false

section
variable (sy : Sy) (G : Nat) (B : Kp) (w0 : World)

/-- what is kept: the blocks of B, and all but the heap -/
structure Kept (B : Kp) (w w' : World) : Prop where
  os : w'.os = w.os
  tape : w'.tape = w.tape
  output : w'.output = w.output
  size : w.heap.size ≤ w'.heap.size
  block : ∀ k, B k → w'.heap[k]? = w.heap[k]?
theorem Kept.refl (B : Kp) (w : World) : Kept B w w := ⟨rfl, rfl, rfl, Nat.le_refl _, fun _ _ => rfl⟩
theorem Kept.trans {B : Kp} {w w1 w2 : World} (h : Kept B w w1) (k : Kept B w1 w2) : Kept B w w2 :=
  ⟨k.os.trans h.os, k.tape.trans h.tape, k.output.trans h.output, Nat.le_trans h.size k.size, fun j hj => (k.block j hj).trans (h.block j hj)⟩

def EntRel (ρ : Ren) : List Ent → List MapEntry → Prop
  | [], l => l = []
  | x :: r, l => ∃ y s, l = y :: s ∧ VRel sy ρ x.key y.key ∧ VRel sy ρ x.val y.val ∧ y.born = x.born ∧ EntRel ρ r s
variable {sy} in
theorem EntRel.mono {ρ ρ' : Ren} (h : ρ.le ρ') : ∀ {l : List Ent} {l' : List MapEntry}, EntRel sy ρ l l' → EntRel sy ρ' l l'
  | [], _, k => k
  | x :: r, _, ⟨y, s, e, h1, h2, h3, h4⟩ => ⟨y, s, e, h1.mono sy h, h2.mono sy h, h3, EntRel.mono h h4⟩

def InfOk (inf : Inf) (i : BI) (c : Array Value) (e : TypeId) (fz : Nat × Nat) (n fr : Nat) : Prop :=
  (∀ t, inf.ty = some t → e = t) ∧ (inf.z = true → i.sh = 0) ∧ (inf.wh = true → c.size = n) ∧ (inf.low = true → fz.1 = fz.2 ∨ fz.2 ≤ fr + i.sh)

def ORel (ρ : Ren) (w : World) (b : Nat) : Obj → Prop
  | .row cells n es fr inf => ∃ i c e fz, ρ b = some i ∧ ¬ B i.blk ∧ (i.es = es ∧ InfOk inf i c e fz n fr) ∧ w.heap[i.blk]? = some (.cells c e fz) ∧ i.sh + n + i.ext * es ≤ c.size ∧
      (∀ (j : Nat) (v : CV), cells.get j = some v → j < n ∧ ∃ v', c[j + i.sh]? = some v' ∧ VRel sy ρ v v') ∧
      (∀ j : Nat, fr ≤ j → j < n + i.ext * es → ¬ (fz.1 ≤ j + i.sh ∧ j + i.sh < fz.2))
  | .ro cells n => ∃ i c e fz, ρ b = some i ∧ sy.ro i.blk ∧ w.heap[i.blk]? = some (.cells c e fz) ∧
      (∀ (j : Nat) (v : CV), cells.get j = some v → ∃ v', c[j + i.sh]? = some v' ∧ VRel sy ρ v v')
  | .map es clock => ∃ i es', ρ b = some i ∧ ¬ B i.blk ∧ w.heap[i.blk]? = some (.map es' clock) ∧ EntRel sy ρ es es'.toList
  | .siter l n p => ∃ i, ρ b = some i ∧ ¬ B i.blk ∧ i.sh = 0 ∧ w.heap[i.blk]? = some (.stringIter (bytesOf l n) p)
  | .miter m since seen stepped => ∃ i m', ρ b = some i ∧ ¬ B i.blk ∧ i.sh = 0 ∧ w.heap[i.blk]? = some (.mapIter m' since seen.toArray stepped) ∧
      (match m with | none => m' = none | some x => ∃ k, ρ x = some k ∧ m' = some k.blk)
  | .coll => ∃ i, ρ b = some i ∧ ¬ B i.blk ∧ i.sh = 0 ∧ w.heap[i.blk]? = some (.deferred (some []))
  | .dead => True

def owned : Obj → Bool
  | .ro _ _ => false
  | .dead => false
  | _ => true

structure WRel (ρ : Ren) (st : St) (w : World) : Prop where
  below : Kept B w0 w
  base : ∀ k, B k → k < w.heap.size
  ro : ∀ k, sy.ro k → B k
  gone : ∀ b, B.no b → b < st.next ∧ ρ b = none
  glob : ∀ g, g < G → ∃ i, ρ g = some i ∧ i.blk = g ∧ i.sh = 0
  dom : ∀ b i, ρ b = some i → b < st.next
  obj : ∀ b o, st.heap.get b = some o → ORel sy B ρ w b o
  inj : ∀ b1 b2 o1 o2 i1 i2, st.heap.get b1 = some o1 → owned o1 = true → st.heap.get b2 = some o2 → owned o2 = true → ρ b1 = some i1 → ρ b2 = some i2 → i1.blk = i2.blk → b1 = b2
end

section
variable {sy : Sy} {G : Nat} {B B' : Kp} {w0 : World} {ρ ρ' : Ren} {st : St} {w w' : World}

theorem ORel.mono (h : ρ.le ρ') {w : World} {b : Nat} : ∀ {o : Obj}, ORel sy B ρ w b o → ORel sy B ρ' w b o
  | .row _ _ _ _ _, ⟨i, c, e, fz, h1, h2, h3, h4, h5, h6, h7⟩ => ⟨i, c, e, fz, h _ _ h1, h2, h3, h4, h5, fun j v hv => by
      obtain ⟨a, v', b1, b2⟩ := h6 j v hv
      exact ⟨a, v', b1, b2.mono sy h⟩, h7⟩
  | .ro _ _, ⟨i, c, e, fz, h1, h2, h3, h4⟩ => ⟨i, c, e, fz, h _ _ h1, h2, h3, fun j v hv => by
      obtain ⟨v', b1, b2⟩ := h4 j v hv
      exact ⟨v', b1, b2.mono sy h⟩⟩
  | .map _ _, ⟨i, es', h1, h2, h3, h4⟩ => ⟨i, es', h _ _ h1, h2, h3, h4.mono h⟩
  | .siter _ _ _, ⟨i, h1, h2, hz, h3⟩ => ⟨i, h _ _ h1, h2, hz, h3⟩
  | .miter m _ _ _, ⟨i, m', h1, h2, hz, h3, h4⟩ => ⟨i, m', h _ _ h1, h2, hz, h3, by
      cases m with
      | none => exact h4
      | some x => obtain ⟨k, k1, k2⟩ := h4; exact ⟨k, h _ _ k1, k2⟩⟩
  | .coll, ⟨i, h1, h2, hz, h3⟩ => ⟨i, h _ _ h1, h2, hz, h3⟩
  | .dead, _ => trivial

theorem ORel.of_block {w w' : World} {b : Nat} (h : ∀ i, ρ b = some i → w'.heap[i.blk]? = w.heap[i.blk]?) : ∀ {o : Obj}, ORel sy B ρ w b o → ORel sy B ρ w' b o
  | .row _ _ _ _ _, ⟨i, c, e, fz, h1, h2, h3, h4, h5⟩ => ⟨i, c, e, fz, h1, h2, h3, by rw [h i h1]; exact h4, h5⟩
  | .ro _ _, ⟨i, c, e, fz, h1, h2, h3, h4⟩ => ⟨i, c, e, fz, h1, h2, by rw [h i h1]; exact h3, h4⟩
  | .map _ _, ⟨i, es', h1, h2, h3, h4⟩ => ⟨i, es', h1, h2, by rw [h i h1]; exact h3, h4⟩
  | .siter _ _ _, ⟨i, h1, h2, hz, h3⟩ => ⟨i, h1, h2, hz, by rw [h i h1]; exact h3⟩
  | .miter m _ _ _, ⟨i, m', h1, h2, hz, h3, h4⟩ => ⟨i, m', h1, h2, hz, by rw [h i h1]; exact h3, h4⟩
  | .coll, ⟨i, h1, h2, hz, h3⟩ => ⟨i, h1, h2, hz, by rw [h i h1]; exact h3⟩
  | .dead, _ => trivial

theorem ORel.own {w : World} {b : Nat} {o : Obj} (h : ORel sy B ρ w b o) (ho : owned o = true) : ∃ i, ρ b = some i ∧ ¬ B i.blk ∧ i.blk < w.heap.size := by
  cases o <;> simp [owned] at ho
  · obtain ⟨i, c, e, fz, h1, h2, _, h4, _⟩ := h; exact ⟨i, h1, h2, (Array.getElem?_eq_some_iff.1 h4).1⟩
  · obtain ⟨i, _, h1, h2, h4, _⟩ := h; exact ⟨i, h1, h2, (Array.getElem?_eq_some_iff.1 h4).1⟩
  · obtain ⟨i, h1, h2, _, h4⟩ := h; exact ⟨i, h1, h2, (Array.getElem?_eq_some_iff.1 h4).1⟩
  · obtain ⟨i, _, h1, h2, _, h4, _⟩ := h; exact ⟨i, h1, h2, (Array.getElem?_eq_some_iff.1 h4).1⟩
  · obtain ⟨i, h1, h2, _, h4⟩ := h; exact ⟨i, h1, h2, (Array.getElem?_eq_some_iff.1 h4).1⟩

/-- the heap's blocks are as they were -/
theorem WRel.of_heap {st : St} {w w' : World} (h : WRel sy G B w0 ρ st w) (hh : w'.heap = w.heap) (ho : w'.os = w.os) (ht : w'.tape = w.tape) (hu : w'.output = w.output) : WRel sy G B w0 ρ st w' where
  below := h.below.trans ⟨ho, ht, hu, by rw [hh]; exact Nat.le_refl _, fun k _ => by rw [hh]⟩
  base := by rw [hh]; exact h.base
  ro := h.ro
  gone := h.gone
  glob := h.glob
  dom := h.dom
  obj := fun b o hb => (h.obj b o hb).of_block fun i _ => by rw [hh]
  inj := h.inj
theorem WRel.drew {st : St} {w : World} (h : WRel sy G B w0 ρ st w) : WRel sy G B w0 ρ st { w with drawn := w.drawn + 1 } := h.of_heap rfl rfl rfl rfl
theorem WRel.dfs {hp : T Obj} {n : Nat} {d d' : List Dfr} {w : World} (h : WRel sy G B w0 ρ ⟨hp, n, d⟩ w) : WRel sy G B w0 ρ ⟨hp, n, d'⟩ w := ⟨h.below, h.base, h.ro, h.gone, h.glob, h.dom, h.obj, h.inj⟩

/-- an own block is written -/
theorem WRel.update {hp : T Obj} {n : Nat} {d : List Dfr} {w w' : World} {b : Nat} {o o' : Obj} {i : BI} (h : WRel sy G B w0 ρ ⟨hp, n, d⟩ w)
    (hb : hp.get b = some o) (ho : owned o = true) (hi : ρ b = some i) (hB : ¬ B i.blk) (hbel : Kept B w w') (hsame : ∀ k, k ≠ i.blk → w'.heap[k]? = w.heap[k]?)
    (hnew : ORel sy B ρ w' b o') : WRel sy G B w0 ρ ⟨T.set hp o' b, n, d⟩ w' where
  below := h.below.trans hbel
  base := fun k hk => Nat.lt_of_lt_of_le (h.base k hk) hbel.size
  ro := h.ro
  gone := h.gone
  glob := h.glob
  dom := h.dom
  obj := fun x ox hx => by
    simp only [T.get_set] at hx
    by_cases hxb : x = b
    · subst hxb; rw [if_pos rfl] at hx; cases hx; exact hnew
    · rw [if_neg hxb] at hx
      have hox := h.obj x ox hx
      by_cases hown : owned ox = true
      · exact hox.of_block fun i' hi' => hsame _ fun e => hxb (h.inj x b ox o i' i hx hown hb ho hi' hi e)
      · cases ox <;> simp [owned] at hown
        · obtain ⟨i', c, e, fz, h1, h2, h3, h4⟩ := hox
          exact ⟨i', c, e, fz, h1, h2, by rw [hsame _ (fun e => hB (e ▸ h.ro _ h2))]; exact h3, h4⟩
        · trivial
  inj := fun b1 b2 o1 o2 i1 i2 h1 k1 h2 k2 r1 r2 e => by
    simp only [T.get_set] at h1 h2
    by_cases e1 : b1 = b
    · by_cases e2 : b2 = b
      · rw [e1, e2]
      · rw [if_neg e2] at h2
        subst e1
        exact h.inj b1 b2 o o2 i1 i2 hb ho h2 k2 r1 r2 e
    · rw [if_neg e1] at h1
      by_cases e2 : b2 = b
      · subst e2
        exact h.inj b1 b2 o1 o i1 i2 h1 k1 hb ho r1 r2 e
      · rw [if_neg e2] at h2
        exact h.inj b1 b2 o1 o2 i1 i2 h1 k1 h2 k2 r1 r2 e

/-- ρ with one block more -/
def Ren.put (ρ : Ren) (b : Nat) (i : BI) : Ren := fun x => if x = b then some i else ρ x
theorem Ren.le_put {b : Nat} {i : BI} (h : ρ b = none) : ρ.le (ρ.put b i) := fun x j hx => by
  unfold Ren.put
  by_cases e : x = b
  · subst e; rw [h] at hx; cases hx
  · rw [if_neg e]; exact hx
theorem Ren.put_same (ρ : Ren) (b : Nat) (i : BI) : ρ.put b i b = some i := by simp [Ren.put]
theorem WRel.over {st : St} {w : World} (h : WRel sy G B w0 ρ st w) : ¬ B w.heap.size := fun hb => Nat.lt_irrefl _ (h.base _ hb)
theorem WRel.fresh {st : St} {w : World} (h : WRel sy G B w0 ρ st w) : ρ st.next = none := by
  cases e : ρ st.next with
  | none => rfl
  | some i => exact absurd (h.dom _ _ e) (Nat.lt_irrefl _)

/-- a block is made -/
theorem WRel.new {hp : T Obj} {n : Nat} {d : List Dfr} {w : World} {O : Go.Obj} {o : Obj} {bi : BI} (h : WRel sy G B w0 ρ ⟨hp, n, d⟩ w) (hbi : bi.blk = w.heap.size)
    (hnew : ORel sy B (ρ.put n bi) (w.alloc O) n o) : WRel sy G B w0 (ρ.put n bi) ⟨T.set hp o n, n + 1, d⟩ (w.alloc O) where
  below := h.below.trans ⟨rfl, rfl, rfl, by simp, fun k hk => Below.heap_alloc w O k (h.base k hk)⟩
  base := fun k hk => Nat.lt_of_lt_of_le (h.base k hk) (by simp)
  ro := h.ro
  gone := fun b hb => by
    obtain ⟨h1, h2⟩ := h.gone b hb
    simp only at h1
    refine ⟨by simp only; omega, ?_⟩
    unfold Ren.put
    rw [if_neg (by omega)]
    exact h2
  glob := fun g hg => by
    obtain ⟨i, h1, h2⟩ := h.glob g hg
    exact ⟨i, Ren.le_put h.fresh _ _ h1, h2⟩
  dom := fun b i hb => by
    unfold Ren.put at hb
    by_cases e : b = n
    · subst e; exact Nat.lt_succ_self _
    · rw [if_neg e] at hb; have := h.dom _ _ hb; simp only at this ⊢; omega
  obj := fun x ox hx => by
    simp only [T.get_set] at hx
    by_cases hxb : x = n
    · subst hxb; rw [if_pos rfl] at hx; cases hx; exact hnew
    · rw [if_neg hxb] at hx
      have hox := h.obj x ox hx
      by_cases hdead : ox = .dead
      · subst hdead; trivial
      refine (hox.of_block (w' := w.alloc O) fun i hi => ?_).mono (Ren.le_put h.fresh)
      by_cases hown : owned ox = true
      · obtain ⟨i', h1, h2, h3⟩ := hox.own hown
        rw [hi] at h1; cases h1
        exact Below.heap_alloc w O _ h3
      · cases ox <;> simp [owned] at hown
        · obtain ⟨i', c, e, fz, h1, h2, h3, h4⟩ := hox
          rw [hi] at h1; cases h1
          exact Below.heap_alloc w O _ (Array.getElem?_eq_some_iff.1 h3).1
        · exact absurd rfl hdead
  inj := fun b1 b2 o1 o2 i1 i2 h1 k1 h2 k2 r1 r2 e => by
    simp only [T.get_set] at h1 h2
    unfold Ren.put at r1 r2
    by_cases e1 : b1 = n
    · by_cases e2 : b2 = n
      · rw [e1, e2]
      · rw [if_neg e2] at h2 r2
        rw [if_pos e1] at r1
        cases r1
        obtain ⟨i', q1, q2, q3⟩ := (h.obj b2 o2 h2).own k2
        rw [r2] at q1; cases q1
        omega
    · rw [if_neg e1] at h1 r1
      by_cases e2 : b2 = n
      · rw [if_pos e2] at r2
        cases r2
        obtain ⟨i', q1, q2, q3⟩ := (h.obj b1 o1 h1).own k1
        rw [r1] at q1; cases q1
        omega
      · rw [if_neg e2] at h2 r2
        exact h.inj b1 b2 o1 o2 i1 i2 h1 k1 h2 k2 r1 r2 e

/-- fewer blocks are kept -/
theorem WRel.shrink {w1 : World} (h : WRel sy G B' w1 ρ st w) (h1 : ∀ k, B.blk k → B'.blk k) (h2 : ∀ b, B.no b → B'.no b) (h3 : ∀ k, sy.ro k → B.blk k) (h4 : Kept B w0 w) : WRel sy G B w0 ρ st w where
  below := h4
  base := fun k hk => h.base k (h1 k hk)
  ro := h3
  gone := fun b hb => h.gone b (h2 b hb)
  glob := h.glob
  dom := h.dom
  obj := fun b o hb => by
    have hx := h.obj b o hb
    cases o with
    | row cells n es fr inf =>
      obtain ⟨i, c, e, fz, k1, k2, k3⟩ := hx
      exact ⟨i, c, e, fz, k1, fun hb => k2 (h1 _ hb), k3⟩
    | ro cells n => exact hx
    | map es clock =>
      obtain ⟨i, es', k1, k2, k3⟩ := hx
      exact ⟨i, es', k1, fun hb => k2 (h1 _ hb), k3⟩
    | siter l n p =>
      obtain ⟨i, k1, k2, k3⟩ := hx
      exact ⟨i, k1, fun hb => k2 (h1 _ hb), k3⟩
    | miter m since seen stepped =>
      obtain ⟨i, m', k1, k2, k3⟩ := hx
      exact ⟨i, m', k1, fun hb => k2 (h1 _ hb), k3⟩
    | coll =>
      obtain ⟨i, k1, k2, k3⟩ := hx
      exact ⟨i, k1, fun hb => k2 (h1 _ hb), k3⟩
    | dead => trivial
  inj := h.inj
theorem WRel.again {w1 : World} (h : WRel sy G B w1 ρ st w) : WRel sy G B w ρ st w := h.shrink (fun _ h => h) (fun _ h => h) h.ro (Kept.refl B w)

theorem WRel.grown (h : WRel sy G B w0 ρ st w) (hb : Below w.heap.size w w') : WRel sy G B w0 ρ st w' where
  below := h.below.trans ⟨hb.os, hb.tape, hb.output, hb.size, fun k hk => hb.block k (h.base k hk)⟩
  base := fun k hk => Nat.lt_of_lt_of_le (h.base k hk) hb.size
  ro := h.ro
  gone := h.gone
  glob := h.glob
  dom := h.dom
  obj := fun b o ho => by
    have hx := h.obj b o ho
    have key : ∀ i : BI, i.blk < w.heap.size → ρ b = some i → ORel sy B ρ w' b o := fun i hlt hi => hx.of_block fun i' hi' => by
      rw [hi] at hi'; cases hi'
      exact hb.block _ hlt
    cases o with
    | dead => trivial
    | row _ _ _ _ _ => obtain ⟨i, c, e, fz, h1, h2, h3, h4, h5⟩ := hx; exact key i (Array.getElem?_eq_some_iff.1 h4).1 h1
    | ro _ _ => obtain ⟨i, c, e, fz, h1, h2, h3, h4⟩ := hx; exact key i (Array.getElem?_eq_some_iff.1 h3).1 h1
    | map _ _ => obtain ⟨i, es', h1, h2, h3, h4⟩ := hx; exact key i (Array.getElem?_eq_some_iff.1 h3).1 h1
    | siter _ _ _ => obtain ⟨i, h1, h2, hz, h3⟩ := hx; exact key i (Array.getElem?_eq_some_iff.1 h3).1 h1
    | miter m _ _ _ => obtain ⟨i, m', h1, h2, hz, h3, h4⟩ := hx; exact key i (Array.getElem?_eq_some_iff.1 h3).1 h1
    | coll => obtain ⟨i, h1, h2, hz, h3⟩ := hx; exact key i (Array.getElem?_eq_some_iff.1 h3).1 h1
  inj := h.inj


/-- the model makes a block that the executor knows nothing of -/
theorem WRel.aside {O : Go.Obj} (h : WRel sy G B w0 ρ st w) : WRel sy G ⟨fun k => B.blk k ∨ k = w.heap.size, B.no⟩ (w.alloc O) ρ st (w.alloc O) := by
  have h1 : WRel sy G B w0 ρ st (w.alloc O) := h.grown ⟨rfl, rfl, rfl, by simp, fun k hk => Below.heap_alloc w O k hk⟩
  have ne : ∀ {b : Nat} {o : Obj}, st.heap.get b = some o → owned o = true → ∀ {i : BI}, ρ b = some i → i.blk ≠ w.heap.size := fun {b o} hb ho {i} hi e => by
    obtain ⟨i', q1, _, q3⟩ := (h.obj _ _ hb).own ho
    rw [hi] at q1; cases q1
    omega
  exact {
    below := Kept.refl _ _
    base := fun k hk => by
      rcases hk with hk | rfl
      · exact h1.base k hk
      · simp
    ro := fun k hk => .inl (h.ro k hk)
    gone := h.gone
    glob := h.glob
    dom := h.dom
    obj := fun b o hb => by
      have hx := h1.obj b o hb
      cases o with
      | row cells n es fr inf =>
        obtain ⟨i, c, e, fz, k1, k2, k3⟩ := hx
        exact ⟨i, c, e, fz, k1, fun q => q.elim k2 (ne hb rfl k1), k3⟩
      | ro cells n => exact hx
      | map es clock =>
        obtain ⟨i, es', k1, k2, k3⟩ := hx
        exact ⟨i, es', k1, fun q => q.elim k2 (ne hb rfl k1), k3⟩
      | siter l n p =>
        obtain ⟨i, k1, k2, k3⟩ := hx
        exact ⟨i, k1, fun q => q.elim k2 (ne hb rfl k1), k3⟩
      | miter m since seen stepped =>
        obtain ⟨i, m', k1, k2, k3⟩ := hx
        exact ⟨i, m', k1, fun q => q.elim k2 (ne hb rfl k1), k3⟩
      | coll =>
        obtain ⟨i, k1, k2, k3⟩ := hx
        exact ⟨i, k1, fun q => q.elim k2 (ne hb rfl k1), k3⟩
      | dead => trivial
    inj := h.inj }
/-- such a block is written -/
theorem WRel.free {l : Nat} {O : Go.Obj} (h : WRel sy G B' w ρ st w) (hl : B'.blk l) (h1 : ∀ k, B.blk k → B'.blk k ∧ k ≠ l) (h2 : ∀ b, B.no b → B'.no b) (h3 : ∀ k, sy.ro k → B.blk k) (h4 : Kept B w0 w) :
    WRel sy G B w0 ρ st { w with heap := w.heap.setIfInBounds l O } := by
  have hk : Kept B w { w with heap := w.heap.setIfInBounds l O } := ⟨rfl, rfl, rfl, by simp, fun k hk => by
    have : l ≠ k := fun e => (h1 k hk).2 e.symm
    simp [this]⟩
  have hs := h.shrink (B := B) (w0 := w0) (fun k hk => (h1 k hk).1) h2 h3 h4
  exact {
    below := h4.trans hk
    base := fun k q => Nat.lt_of_lt_of_le (hs.base k q) hk.size
    ro := h3
    gone := hs.gone
    glob := hs.glob
    dom := hs.dom
    obj := fun b o hb => by
      have hx := h.obj b o hb
      by_cases hdead : o = .dead
      · subst hdead; trivial
      refine (hs.obj b o hb).of_block fun i hi => ?_
      have : l ≠ i.blk := fun e => by
        by_cases ho : owned o = true
        · obtain ⟨i', q1, q2, _⟩ := hx.own ho
          rw [hi] at q1; cases q1
          exact q2 (e ▸ hl)
        · cases o <;> simp [owned] at ho
          · obtain ⟨i', c, e', fz, q1, q2, _⟩ := hx
            rw [hi] at q1; cases q1
            exact (h1 _ (h3 _ q2)).2 e.symm
          · exact absurd rfl hdead
      simp [this]
    inj := hs.inj }
end
end Go.Proofs.YtbmbjaogcmokoaaGreatDoorX
