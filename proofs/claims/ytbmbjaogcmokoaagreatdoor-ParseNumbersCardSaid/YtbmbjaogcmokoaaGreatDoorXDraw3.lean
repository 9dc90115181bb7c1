/- Regions that draw their order (3): whatever the order, the end is the same. -/
import Derived.Test.YtbmbjaogcmokoaaGreatDoorXDraw2
namespace Go.Proofs.YtbmbjaogcmokoaaGreatDoorX
open Go Go.RowKit
set_option linter.unusedVariables false

/-! ## The last value of a slot -/
def valF : List Rec → (Nat → Bool) → Nat → Nat → CV → CV
  | [], _, _, _, cur => cur
  | r :: rs, L, i, t, cur => valF rs L (i + 1) t (if L i = true ∧ r.o.dst = some t then r.v else cur)

theorem valF_cons (r : Rec) (rs : List Rec) (L : Nat → Bool) (i t : Nat) (cur : CV) : valF (r :: rs) L i t cur = valF rs L (i + 1) t (if L i = true ∧ r.o.dst = some t then r.v else cur) := rfl
theorem valF_congr : ∀ (recs : List Rec) (L L' : Nat → Bool) (i t : Nat) (cur : CV), (∀ j r, recs[j]? = some r → r.o.dst = some t → L (i + j) = L' (i + j)) → valF recs L i t cur = valF recs L' i t cur
  | [], _, _, _, _, _, _ => rfl
  | r :: rs, L, L', i, t, cur, h => by
    unfold valF
    have h0 : (if L i = true ∧ r.o.dst = some t then r.v else cur) = (if L' i = true ∧ r.o.dst = some t then r.v else cur) := by
      by_cases hd : r.o.dst = some t
      · have := h 0 r rfl hd
        rw [Nat.add_zero] at this
        rw [this]
      · simp [hd]
    rw [h0]
    exact valF_congr rs L L' (i + 1) t _ fun j r' hj hd => by
      have := h (j + 1) r' (by simpa using hj) hd
      rw [show i + 1 + j = i + (j + 1) by omega]; exact this
theorem valF_shift : ∀ (recs : List Rec) (L : Nat → Bool) (i t : Nat) (cur : CV), valF recs L (i + 1) t cur = valF recs (fun j => L (j + 1)) i t cur
  | [], _, _, _, _ => rfl
  | r :: rs, L, i, t, cur => by
    unfold valF
    exact valF_shift rs L (i + 1) t _
theorem valF_last : ∀ (recs : List Rec) (L : Nat → Bool) (i k t : Nat) (cur : CV) (ri : Rec), recs[k]? = some ri → ri.o.dst = some t → L (i + k) = true → (∀ j r, recs[j]? = some r → r.o.dst = some t → k < j → L (i + j) = false) → valF recs L i t cur = ri.v
  | [], _, _, _, _, _, _, h, _, _, _ => by simp at h
  | r :: rs, L, i, 0, t, cur, ri, h, hd, hl, hno => by
    simp at h
    subst h
    unfold valF
    rw [Nat.add_zero] at hl
    rw [if_pos ⟨hl, hd⟩]
    have : ∀ (rs : List Rec) (i : Nat) (c : CV), (∀ j r, rs[j]? = some r → r.o.dst = some t → L (i + j) = false) → valF rs L i t c = c := by
      intro rs
      induction rs with
      | nil => intro i c _; rfl
      | cons x xs ih =>
        intro i c hx
        unfold valF
        rw [ih (i + 1) _ fun j r hj hd => by
          have := hx (j + 1) r (by simpa using hj) hd
          rw [show i + 1 + j = i + (j + 1) by omega]; exact this]
        rw [if_neg]
        rintro ⟨h1, h2⟩
        have := hx 0 x rfl h2
        rw [Nat.add_zero] at this
        rw [this] at h1; cases h1
    exact this rs (i + 1) _ fun j r' hj hd' => by
      have := hno (j + 1) r' (by simpa using hj) hd' (by omega)
      rw [show i + 1 + j = i + (j + 1) by omega]; exact this
  | r :: rs, L, i, k + 1, t, cur, ri, h, hd, hl, hno => by
    unfold valF
    refine valF_last rs L (i + 1) k t _ ri (by simpa using h) hd (by rw [show i + 1 + k = i + (k + 1) by omega]; exact hl) fun j r' hj hd' hlt => ?_
    have := hno (j + 1) r' (by simpa using hj) hd' (by omega)
    rw [show i + 1 + j = i + (j + 1) by omega]; exact this

theorem valF_le : ∀ (recs : List Rec) (L : Nat → Bool) (i t : Nat) (c c' : CV), LeV c c' → LeV (valF recs L i t c) (valF recs L i t c')
  | [], _, _, _, _, _, h => h
  | r :: rs, L, i, t, c, c', h => by
    unfold valF
    refine valF_le rs L (i + 1) t _ _ ?_
    by_cases hc : L i = true ∧ r.o.dst = some t
    · rw [if_pos hc, if_pos hc]; exact .inr rfl
    · rw [if_neg hc, if_neg hc]; exact h

theorem valF_step (recs : List Rec) (i t : Nat) (c : CV) (r : Rec) (h : recs[i]? = some r) :
    valF recs (fun j => decide (j < i + 1)) 0 t c = if r.o.dst = some t then r.v else valF recs (fun j => decide (j < i)) 0 t c := by
  by_cases hd : r.o.dst = some t
  · rw [if_pos hd]
    exact valF_last recs _ 0 i t c r h hd (by simp) fun j rj _ _ hlt => by simp; omega
  · rw [if_neg hd]
    refine valF_congr recs _ _ 0 t c fun j rj hj hdj => ?_
    rw [Nat.zero_add]
    by_cases e : j = i
    · subst e
      rw [h] at hj; cases hj
      exact absurd hdj hd
    · have : (j < i + 1) = (j < i) := by rw [eq_iff_iff]; omega
      simp only [this]

theorem valF_none : ∀ (recs : List Rec) (L : Nat → Bool) (i t : Nat) (c : CV), (∀ (j : Nat) (r : Rec), recs[j]? = some r → r.o.dst ≠ some t) → valF recs L i t c = c
  | [], _, _, _, _, _ => rfl
  | r :: rs, L, i, t, c, h => by
    rw [valF_cons, if_neg (fun k => h 0 r rfl k.2)]
    exact valF_none rs L (i + 1) t c fun j x hx => h (j + 1) x (by simpa using hx)
theorem unwritten_spec : ∀ (l : List Oper) (t : Nat), unwritten l t = true → ∀ o ∈ l, o.dst ≠ some t
  | [], _, _, _, h => by simp at h
  | x :: r, t, h, o, ho => by
    unfold unwritten at h
    rw [List.mem_cons] at ho
    cases hd : x.dst with
    | none =>
      rw [hd] at h
      rcases ho with rfl | ho
      · rw [hd]; simp
      · exact unwritten_spec r t h o ho
    | some d =>
      rw [hd] at h
      simp only [Bool.and_eq_true, Bool.not_eq_true'] at h
      rcases ho with rfl | ho
      · rw [hd]
        intro e
        have e' : d = t := Option.some.inj e
        subst e'
        rw [show Nat.beq d d = true from Nat.beq_refl d] at h
        cases h.1
      · exact unwritten_spec r t h.2 o ho
section
variable {P : Program} {cx : Cx} {call : Caller} {fl : Bool} {A : List Nat} {base : Nat} {ops : Array Oper} {recs : List Rec} {E : Nat → List CV} {L : Nat → Loc} {S : Nat → St} {D : Nat → List (Nat × Obj)} {pan : Option (CV × St)}

theorem quiet_floats {o : Oper} (h : floats fl o = true) : quiet P fl o = true := by simp [quiet, h]
theorem stepR_quiet {all : List Oper} {i : Nat} {o : Oper} {env : List CV} {loc : Loc} {st st1 : St} {pd pd1 : List (Nat × Obj)} {v : CV} {b : Bool} (h : StepR P cx call fl A pan all base i o env loc st pd v b st1 pd1) (hq : quiet P fl o = true) : st1 = st := by
  rcases h with ⟨_, _, h, _⟩ | ⟨_, hr, _, _, h1, h2, _⟩ | ⟨hf, hr, _⟩
  · exact h
  · cases b with
    | true => exact reads_keep hr (h1 rfl)
    | false => exact (h2 rfl).2
  · simp [quiet, hf, hr] at hq

/-- the states ahead of the changers -/
theorem states_get : ∀ (recs : List Rec) (S : Nat → St), (∀ j r, recs[j]? = some r → r.st = S j ∧ (quiet P fl r.o = true → S (j + 1) = S j)) →
    ∀ i, i ≤ recs.length → (statesOf P fl recs (S recs.length))[(recs.take i).countP fun r => !quiet P fl r.o]? = some (S i)
  | [], S, _, i, h => by
    have : i = 0 := by simpa using h
    subst this
    rfl
  | r :: rs, S, h, i, hi => by
    have h0 := h 0 r rfl
    have ih := states_get rs (fun j => S (j + 1)) (fun j x hx => h (j + 1) x (by simpa using hx))
    unfold statesOf
    cases hq : quiet P fl r.o with
    | true =>
      simp only [cond_true, List.length_cons]
      cases i with
      | zero =>
        have := ih 0 (by omega)
        simp only [List.take_zero, List.countP_nil] at this ⊢
        rw [this]
        exact congrArg some (h0.2 hq)
      | succ i =>
        have := ih i (by simpa using hi)
        simp only [List.take_succ_cons, List.countP_cons, hq, Bool.not_true, Bool.false_eq_true, if_false, Nat.add_zero]
        exact this
    | false =>
      simp only [cond_false, List.length_cons]
      cases i with
      | zero =>
        simp only [List.take_zero, List.countP_nil, List.getElem?_cons_zero]
        exact congrArg some h0.1
      | succ i =>
        have := ih i (by simpa using hi)
        simp only [List.take_succ_cons, List.countP_cons, hq, Bool.not_false, if_true, List.getElem?_cons_succ]
        exact this

variable (hq : Seq P cx call fl A pan ops.toList base 0 ops.toList recs E L S D)
include hq

theorem seq_size : recs.length = ops.size := by simpa using hq.len
theorem seq_op {i : Nat} {r : Rec} (h : recs[i]? = some r) : ops[i]? = some r.o := by simpa using (hq.step i r h).1
theorem seq_rec {i : Nat} {o : Oper} (h : ops[i]? = some o) : ∃ r, recs[i]? = some r ∧ r.o = o := by
  have hlt : i < recs.length := by rw [seq_size hq]; exact (Array.getElem?_eq_some_iff.1 h).1
  refine ⟨recs[i], List.getElem?_eq_getElem hlt, ?_⟩
  have := seq_op hq (List.getElem?_eq_getElem hlt)
  rw [h] at this
  exact (Option.some.inj this).symm
theorem seq_count : ∀ n, n ≤ recs.length → ((recs.take n).countP fun r => !quiet P fl r.o) = kI P fl ops n := by
  intro n
  induction n with
  | zero => intro _; rfl
  | succ n ih =>
    intro hn
    have hn' : n < recs.length := by omega
    rw [List.take_add_one, List.getElem?_eq_getElem hn', kI_succ, ← ih (by omega)]
    simp only [Option.toList_some, List.countP_append, List.countP_singleton]
    have := seq_op hq (List.getElem?_eq_getElem hn')
    simp [chg, this]
theorem seq_states {i : Nat} (hi : i ≤ ops.size) : (statesOf P fl recs (S ops.size))[kI P fl ops i]? = some (S i) := by
  rw [← seq_count hq i (by rw [seq_size hq]; exact hi), ← seq_size hq]
  refine states_get recs S (fun j r hr => ?_) i (by rw [seq_size hq]; exact hi)
  obtain ⟨_, _, _, h4, _, h6⟩ := hq.step j r hr
  exact ⟨h4, fun h => stepR_quiet h6 h⟩

/-- what an operation sees in a slot -/
theorem seq_look (t : Nat) : ∀ i, i ≤ ops.size → LeV (look cx (E i) (L i) t) (valF recs (fun j => decide (j < i)) 0 t (look cx (E 0) (L 0) t)) := by
  intro i
  induction i with
  | zero =>
    intro _
    have : ∀ (recs : List Rec) (i : Nat) (c : CV), valF recs (fun j => decide (j < 0)) i t c = c := by
      intro recs
      induction recs with
      | nil => intros; rfl
      | cons x xs ihx => intro i c; unfold valF; rw [ihx]; simp
    rw [this]
    exact .inr rfl
  | succ i ih =>
    intro hi
    have hlt : i < recs.length := by rw [seq_size hq]; omega
    have hr := List.getElem?_eq_getElem hlt
    obtain ⟨_, _, _, _, h5, _⟩ := hq.step i _ hr
    rw [valF_step recs i t _ _ hr]
    have hl := (put_look h5).2 t
    refine LeV.trans hl ?_
    by_cases hd : recs[i].o.dst = some t
    · rw [if_pos hd, if_pos hd]; exact .inr rfl
    · rw [if_neg hd, if_neg hd]; exact ih (by omega)

/-- a block that is made ahead: what it is -/
def ObAt (P : Program) (cx : Cx) (call : Caller) (fl : Bool) (base : Nat) (recs : List Rec) (j : Nat) (ob : Obj) : Prop :=
  ∃ r st', recs[j]? = some r ∧ floats fl r.o = true ∧ (opF P cx r.o.op).f call r.env r.loc ⟨.nil, base + j, []⟩ = .ok r.v st' ∧ st'.heap.get (base + j) = some ob
omit hq in
theorem ObAt.same {j : Nat} {ob ob' : Obj} (h : ObAt P cx call fl base recs j ob) (k : ObAt P cx call fl base recs j ob') : ob = ob' := by
  obtain ⟨r, s, h1, _, h3, h4⟩ := h
  obtain ⟨r', s', k1, _, k3, k4⟩ := k
  rw [h1] at k1; cases k1
  rw [h3] at k3; cases k3
  rw [h4] at k4; exact Option.some.inj k4
theorem seq_ob {j : Nat} {o : Oper} (ho : ops[j]? = some o) (hf : floats fl o = true) : ∃ ob, ObAt P cx call fl base recs j ob := by
  obtain ⟨r, hr, rfl⟩ := seq_rec hq ho
  obtain ⟨_, h2, h3, _, _, h6⟩ := hq.step j r hr
  rcases h6 with ⟨_, _, _, _, st', ob, k1, k2, _⟩ | ⟨k, _⟩ | ⟨k, _⟩
  · rw [Nat.zero_add] at k1 k2
    exact ⟨ob, r, st', hr, hf, by rw [h2, h3]; exact k1, k2⟩
  · rw [hf] at k; cases k
  · rw [hf] at k; cases k

omit hq in
theorem matF_mem {p : Nat → Bool} : ∀ (pd : List (Nat × Obj)) (st stm : St) (pd1 : List (Nat × Obj)), matF base p pd st = some (stm, pd1) → pd1 = pd.filter fun x => !p x.1
  | [], st, stm, pd1, h => by cases h; rfl
  | (i, ob) :: r, st, stm, pd1, h => by
    unfold matF at h
    simp only at h
    cases hp : p i with
    | true =>
      rw [hp] at h
      obtain ⟨hh, n, d⟩ := st
      simp only at h
      split at h
      · rw [matF_mem r _ _ _ h]; simp [hp]
      · cases h
    | false =>
      rw [hp] at h
      simp only at h
      cases hm : matF base p r st with
      | none => rw [hm] at h; cases h
      | some sp =>
        rw [hm] at h
        cases h
        rw [matF_mem r _ _ _ hm]; simp [hp]

/-- which blocks wait -/
theorem seq_pend (hA : ∀ j i, Nat.testBit (A.getD j 0) i = true → i < j) (hD : D 0 = []) : ∀ i, i ≤ ops.size → ((D i).map (·.1)).Nodup ∧
    ∀ j ob, (j, ob) ∈ D i ↔ (j < i ∧ ObAt P cx call fl base recs j ob ∧ ∀ c, c < i → chg P fl ops c = true → Nat.testBit (A.getD c 0) j = false) := by
  intro i
  induction i with
  | zero => intro _; rw [hD]; simp
  | succ i ih =>
    intro hi
    obtain ⟨hn, hm⟩ := ih (by omega)
    have hlt : i < recs.length := by rw [seq_size hq]; omega
    obtain ⟨r, hr⟩ : ∃ r, recs[i]? = some r := ⟨recs[i], List.getElem?_eq_getElem hlt⟩
    obtain ⟨_, h2, h3, _, _, h6⟩ := hq.step i r hr
    have ho := seq_op hq hr
    rw [Nat.zero_add] at h6
    rcases h6 with ⟨hf, _, _, _, st', ob0, k1, k2, k3⟩ | ⟨hf, hrd, _, _, _, _, k3⟩ | ⟨hf, hrd, stm, k1, _⟩
    · have hch : chg P fl ops i = false := by simp [chg, ho, quiet, hf]
      have hob : ObAt P cx call fl base recs i ob0 := ⟨r, st', hr, hf, by rw [h2, h3]; exact k1, k2⟩
      rw [k3]
      refine ⟨?_, fun j ob => ?_⟩
      · rw [List.map_cons, List.nodup_cons]
        refine ⟨fun hmem => ?_, hn⟩
        obtain ⟨x, hx, hxi⟩ := List.mem_map.1 hmem
        obtain ⟨xi, xo⟩ := x
        simp only at hxi
        subst hxi
        have := ((hm _ _).1 hx).1
        omega
      · rw [List.mem_cons]
        constructor
        · rintro (h | h)
          · cases h
            refine ⟨by omega, hob, fun c hc hcg => ?_⟩
            cases hb : Nat.testBit (A.getD c 0) i with
            | false => rfl
            | true => have := hA c i hb; omega
          · obtain ⟨q1, q2, q3⟩ := (hm j ob).1 h
            refine ⟨by omega, q2, fun c hc hcg => ?_⟩
            by_cases e : c = i
            · subst e; rw [hch] at hcg; cases hcg
            · exact q3 c (by omega) hcg
        · rintro ⟨q1, q2, q3⟩
          by_cases e : j = i
          · subst e
            rw [q2.same hob]; exact .inl rfl
          · exact .inr ((hm j ob).2 ⟨by omega, q2, fun c hc hcg => q3 c (by omega) hcg⟩)
    · have hch : chg P fl ops i = false := by simp [chg, ho, quiet, hrd]
      rw [k3]
      refine ⟨hn, fun j ob => ?_⟩
      rw [hm]
      constructor
      · rintro ⟨q1, q2, q3⟩
        refine ⟨by omega, q2, fun c hc hcg => ?_⟩
        by_cases e : c = i
        · subst e; rw [hch] at hcg; cases hcg
        · exact q3 c (by omega) hcg
      · rintro ⟨q1, q2, q3⟩
        refine ⟨?_, q2, fun c hc hcg => q3 c (by omega) hcg⟩
        by_cases e : j = i
        · subst e
          obtain ⟨r', _, w1, w2, _⟩ := q2
          rw [hr] at w1; cases w1
          rw [hf] at w2; cases w2
        · omega
    · have hch : chg P fl ops i = true := by simp [chg, ho, quiet, hrd, hf]
      have hmem := matF_mem _ _ _ _ k1
      rw [hmem]
      refine ⟨hn.sublist (List.Sublist.map _ List.filter_sublist), fun j ob => ?_⟩
      rw [List.mem_filter, hm]
      simp only [Bool.not_eq_true']
      constructor
      · rintro ⟨⟨q1, q2, q3⟩, q4⟩
        refine ⟨by omega, q2, fun c hc hcg => ?_⟩
        by_cases e : c = i
        · subst e; exact q4
        · exact q3 c (by omega) hcg
      · rintro ⟨q1, q2, q3⟩
        refine ⟨⟨?_, q2, fun c hc hcg => q3 c (by omega) hcg⟩, q3 i (by omega) hch⟩
        by_cases e : j = i
        · subst e
          obtain ⟨r', _, w1, w2, _⟩ := q2
          rw [hr] at w1; cases w1
          rw [hf] at w2; cases w2
        · omega
end

/-! ## What an operation looks at, alone -/
theorem ev_mask {cx : Cx} {T : Nat → Bool} {env : List CV} {loc : Loc} {x : Operand} (h : ∀ t, x = .tmp t → T t = true) : (ev cx x).f (maskE T cx.vars env) (maskL T loc) = (ev cx x).f env loc := by
  cases x with
  | tmp t =>
    show (evTmpAt t (pos cx.vars t)).f _ _ = (evTmpAt t (pos cx.vars t)).f _ _
    rw [evTmpAt_eq, evTmpAt_eq, look_mask, if_pos (h t rfl)]
  | const v => rfl
  | global g =>
    unfold ev
    simp only
    cases Nat.blt g cx.ng <;> rfl
  | func f => rfl
end Go.Proofs.YtbmbjaogcmokoaaGreatDoorX
