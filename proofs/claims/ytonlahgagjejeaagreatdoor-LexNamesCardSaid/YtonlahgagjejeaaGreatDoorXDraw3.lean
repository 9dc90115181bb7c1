/- Regions that draw their order (3): whatever the order, the end is the same. -/
import Derived.Test.YtonlahgagjejeaaGreatDoorXDraw2
namespace Go.Proofs.YtonlahgagjejeaaGreatDoorX
open Go Go.RowKit
set_option linter.unusedVariables false

/-! ## The last value of a slot -/
def valF : List Rec → (Nat → Bool) → Nat → Nat → CV → CV
  | [], _, _, _, cur => cur
  | r :: rs, L, i, t, cur => valF rs L (i + 1) t (if L i = true ∧ r.o.dst = some t then r.v else cur)

theorem valF_cons (r : Rec) (rs : List Rec) (L : Nat → Bool) (i t : Nat) (cur : CV) : valF (r :: rs) L i t cur = valF rs L (i + 1) t (if L i = true ∧ r.o.dst = some t then r.v else cur) := rfl
theorem valF_congr : ∀ (recs : List Rec) (L L' : Nat → Bool) (i t : Nat) (cur : CV), (∀ j r, recs[j]? = some r → r.o.dst = some t → L (i + j) = L' (i + j)) → valF recs L i t cur = valF recs L' i t cur
  | [], _, _, _, _, _, _ => rfl
  | r :: rs, L, L', i, t, cur, h => by
    unfold valF
    have h0 : (if L i = true ∧ r.o.dst = some t then r.v else cur) = (if L' i = true ∧ r.o.dst = some t then r.v else cur) := by
      by_cases hd : r.o.dst = some t
      · have := h 0 r rfl hd
        rw [Nat.add_zero] at this
        rw [this]
      · simp [hd]
    rw [h0]
    exact valF_congr rs L L' (i + 1) t _ fun j r' hj hd => by
      have := h (j + 1) r' (by simpa using hj) hd
      rw [show i + 1 + j = i + (j + 1) by omega]; exact this
theorem valF_shift : ∀ (recs : List Rec) (L : Nat → Bool) (i t : Nat) (cur : CV), valF recs L (i + 1) t cur = valF recs (fun j => L (j + 1)) i t cur
  | [], _, _, _, _ => rfl
  | r :: rs, L, i, t, cur => by
    unfold valF
    exact valF_shift rs L (i + 1) t _
theorem valF_last : ∀ (recs : List Rec) (L : Nat → Bool) (i k t : Nat) (cur : CV) (ri : Rec), recs[k]? = some ri → ri.o.dst = some t → L (i + k) = true → (∀ j r, recs[j]? = some r → r.o.dst = some t → k < j → L (i + j) = false) → valF recs L i t cur = ri.v
  | [], _, _, _, _, _, _, h, _, _, _ => by simp at h
  | r :: rs, L, i, 0, t, cur, ri, h, hd, hl, hno => by
    simp at h
    subst h
    unfold valF
    rw [Nat.add_zero] at hl
    rw [if_pos ⟨hl, hd⟩]
    have : ∀ (rs : List Rec) (i : Nat) (c : CV), (∀ j r, rs[j]? = some r → r.o.dst = some t → L (i + j) = false) → valF rs L i t c = c := by
      intro rs
      induction rs with
      | nil => intro i c _; rfl
      | cons x xs ih =>
        intro i c hx
        unfold valF
        rw [ih (i + 1) _ fun j r hj hd => by
          have := hx (j + 1) r (by simpa using hj) hd
          rw [show i + 1 + j = i + (j + 1) by omega]; exact this]
        rw [if_neg]
        rintro ⟨h1, h2⟩
        have := hx 0 x rfl h2
        rw [Nat.add_zero] at this
        rw [this] at h1; cases h1
    exact this rs (i + 1) _ fun j r' hj hd' => by
      have := hno (j + 1) r' (by simpa using hj) hd' (by omega)
      rw [show i + 1 + j = i + (j + 1) by omega]; exact this
  | r :: rs, L, i, k + 1, t, cur, ri, h, hd, hl, hno => by
    unfold valF
    refine valF_last rs L (i + 1) k t _ ri (by simpa using h) hd (by rw [show i + 1 + k = i + (k + 1) by omega]; exact hl) fun j r' hj hd' hlt => ?_
    have := hno (j + 1) r' (by simpa using hj) hd' (by omega)
    rw [show i + 1 + j = i + (j + 1) by omega]; exact this

def LeV (x y : CV) : Prop := x = .unk ∨ x = y
theorem LeV.rel {sy : Nat → ByteArray} {ρ : Ren} {x y : CV} {v : Value} (h : LeV x y) (k : VRel sy ρ y v) : VRel sy ρ x v := by
  rcases h with rfl | rfl
  · simp [VRel]
  · exact k
theorem LeV.trans {x y z : CV} (h : LeV x y) (k : LeV y z) : LeV x z := by
  rcases h with rfl | rfl
  · exact .inl rfl
  · exact k
theorem valF_le : ∀ (recs : List Rec) (L : Nat → Bool) (i t : Nat) (c c' : CV), LeV c c' → LeV (valF recs L i t c) (valF recs L i t c')
  | [], _, _, _, _, _, h => h
  | r :: rs, L, i, t, c, c', h => by
    unfold valF
    refine valF_le rs L (i + 1) t _ _ ?_
    by_cases hc : L i = true ∧ r.o.dst = some t
    · rw [if_pos hc, if_pos hc]; exact .inr rfl
    · rw [if_neg hc, if_neg hc]; exact h

section
variable {P : Program} {cx : Cx} {call : Caller} {all : List Oper}

theorem chain_len {l : List Oper} {env env2 : List CV} {loc loc2 : Loc} {st st2 : St} {recs : List Rec} (h : Chain P cx call all l env loc st recs env2 loc2 st2) :
    recs.length = l.length ∧ ∀ (i : Nat) (r : Rec), recs[i]? = some r → l[i]? = some r.o := by
  induction h with
  | nil => exact ⟨rfl, fun i r h => by simp at h⟩
  | cons hg ht hf hp hc ih =>
    refine ⟨by simp [ih.1], fun i r h => ?_⟩
    cases i with
    | zero => simp at h; subst h; rfl
    | succ i => simpa using ih.2 i r (by simpa using h)

theorem chain_head {l : List Oper} {env env2 : List CV} {loc loc2 : Loc} {st st2 : St} {recs : List Rec} (h : Chain P cx call all l env loc st recs env2 loc2 st2) : (statesOf P recs st2)[0]? = some st := by
  induction h with
  | nil => rfl
  | @cons o r env loc st v b st1 env1 loc1 recs env2 loc2 st2 hg ht hf hp hc ih =>
    unfold statesOf
    cases hr : reads P o.op with
    | false => rfl
    | true =>
      simp only [cond_true]
      rw [ih]
      cases b with
      | true => rw [reads_keep hr (ht rfl)]
      | false => rw [(hf rfl).2]

/-- each operation's own record -/
theorem chain_rec {l : List Oper} {env env2 : List CV} {loc loc2 : Loc} {st st2 : St} {recs : List Rec} (h : Chain P cx call all l env loc st recs env2 loc2 st2) :
    ∀ (i : Nat) (r : Rec), recs[i]? = some r → GuardIs cx all r.o.guard r.env r.loc r.wanted ∧ (∃ env1 loc1, PutIs cx r.o.dst r.v r.env r.loc env1 loc1) ∧ (r.wanted = false → r.v = .tup []) ∧
      (statesOf P recs st2)[(recs.take i).countP fun r => !reads P r.o.op]? = some r.st ∧
      ∃ st1, (r.wanted = true → (opF P cx r.o.op).f call r.env r.loc r.st = .ok r.v st1) ∧ (r.wanted = false → st1 = r.st) ∧
        (reads P r.o.op = true → st1 = r.st) ∧ (reads P r.o.op = false → (statesOf P recs st2)[((recs.take i).countP fun r => !reads P r.o.op) + 1]? = some st1) := by
  induction h with
  | nil => intro i r h; simp at h
  | @cons o r env loc st v b st1 env1 loc1 recs env2 loc2 st2 hg ht hf hp hc ih =>
    intro i rc hi
    cases i with
    | zero =>
      simp at hi
      subst hi
      refine ⟨hg, ⟨env1, loc1, hp⟩, fun h => (hf h).1, ?_, st1, ht, fun h => (hf h).2, fun h => ?_, fun h => ?_⟩
      · exact chain_head (.cons hg ht hf hp hc)
      · cases b with
        | true => exact reads_keep h (ht rfl)
        | false => exact (hf rfl).2
      · unfold statesOf
        simp only [h, cond_false, List.take_zero, List.countP_nil, Nat.zero_add, List.getElem?_cons_succ]
        exact chain_head hc
    | succ i =>
      obtain ⟨h1, h2, h3, h4, st', h5, h6, h7, h8⟩ := ih i rc (by simpa using hi)
      refine ⟨h1, h2, h3, ?_, st', h5, h6, h7, fun h => ?_⟩
      · unfold statesOf
        cases hr : reads P o.op with
        | false => simp only [hr, cond_false, List.take_succ_cons, List.countP_cons, Bool.not_false, if_true, List.getElem?_cons_succ]; exact h4
        | true => simp only [hr, cond_true, List.take_succ_cons, List.countP_cons, Bool.not_true, Bool.false_eq_true, if_false, Nat.add_zero]; exact h4
      · have := h8 h
        unfold statesOf
        cases hr : reads P o.op with
        | false => simp only [hr, cond_false, List.take_succ_cons, List.countP_cons, Bool.not_false, if_true, List.getElem?_cons_succ]; exact this
        | true => simp only [hr, cond_true, List.take_succ_cons, List.countP_cons, Bool.not_true, Bool.false_eq_true, if_false, Nat.add_zero]; exact this
theorem chain_end {l : List Oper} {env env2 : List CV} {loc loc2 : Loc} {st st2 : St} {recs : List Rec} (h : Chain P cx call all l env loc st recs env2 loc2 st2) :
    (statesOf P recs st2)[recs.countP fun r => !reads P r.o.op]? = some st2 := by
  induction h with
  | nil => rfl
  | @cons o r env loc st v b st1 env1 loc1 recs env2 loc2 st2 hg ht hf hp hc ih =>
    unfold statesOf
    cases hr : reads P o.op with
    | false => simp only [hr, cond_false, List.countP_cons, Bool.not_false, if_true, List.getElem?_cons_succ]; exact ih
    | true => simp only [hr, cond_true, List.countP_cons, Bool.not_true, Bool.false_eq_true, if_false, Nat.add_zero]; exact ih

/-- what an operation sees in a slot -/
theorem chain_look {l : List Oper} {env env2 : List CV} {loc loc2 : Loc} {st st2 : St} {recs : List Rec} (h : Chain P cx call all l env loc st recs env2 loc2 st2) (t : Nat) :
    (∀ (i : Nat) (r : Rec), recs[i]? = some r → LeV (look cx r.env r.loc t) (valF recs (fun j => decide (j < i)) 0 t (look cx env loc t))) ∧
    LeV (look cx env2 loc2 t) (valF recs (fun _ => true) 0 t (look cx env loc t)) := by
  induction h with
  | nil => exact ⟨fun i r h => by simp at h, .inr rfl⟩
  | @cons o r env loc st v b st1 env1 loc1 recs env2 loc2 st2 hg ht hf hp hc ih =>
    have hl := (put_look hp).2 t
    have hle : LeV (look cx env1 loc1 t) (if o.dst = some t then v else look cx env loc t) := hl
    constructor
    · intro i rc hi
      cases i with
      | zero =>
        simp at hi
        subst hi
        have : ∀ (recs : List Rec) (i : Nat) (c : CV), valF recs (fun j => decide (j < 0)) i t c = c := by
          intro recs
          induction recs with
          | nil => intros; rfl
          | cons x xs ihx => intro i c; unfold valF; rw [ihx]; simp
        rw [this]
        exact .inr rfl
      | succ i =>
        have h1 := ih.1 i rc (by simpa using hi)
        refine h1.trans ?_
        rw [valF_cons, valF_shift]
        have e : (fun j => decide (j + 1 < i + 1)) = fun j => decide (j < i) := by funext j; simp
        simp only [e]
        refine valF_le _ _ _ _ _ _ (hle.trans (.inr ?_))
        simp
    · refine ih.2.trans ?_
      rw [valF_cons, valF_shift]
      refine valF_le _ _ _ _ _ _ (hle.trans (.inr ?_))
      simp
end

/-! ## What an operation looks at, alone -/
def maskE (T : Nat → Bool) : List Nat → List CV → List CV
  | t :: vs, v :: es => (if T t = true then v else .unk) :: maskE T vs es
  | _, [] => []
  | [], es => es
def maskL (T : Nat → Bool) : Loc → Loc
  | .nil => .nil
  | .cons t v r => if T t = true then .cons t v (maskL T r) else maskL T r
theorem nth_mask (T : Nat → Bool) : ∀ (vars : List Nat) (env : List CV) (t k : Nat), pos vars t = some k → nth (maskE T vars env) k = if T t = true then nth env k else .unk
  | [], env, t, k, h => by cases h
  | u :: vs, [], t, k, h => by
    unfold maskE
    rw [nth_ge [] k (by simp)]
    simp
  | u :: vs, v :: es, t, k, h => by
    unfold pos at h
    unfold maskE
    cases e : Nat.beq u t with
    | true =>
      rw [e] at h
      simp only [cond_true] at h
      cases h
      have : u = t := Nat.eq_of_beq_eq_true e
      subst this
      show (if T u = true then v else CV.unk) = _
      rfl
    | false =>
      rw [e] at h
      simp only [cond_false] at h
      cases hp : pos vs t with
      | none => rw [hp] at h; cases h
      | some j =>
        rw [hp] at h
        simp only [Option.some.injEq] at h
        subst h
        show nth (maskE T vs es) j = if T t = true then nth es j else .unk
        exact nth_mask T vs es t j hp
theorem loc_mask (T : Nat → Bool) (t : Nat) : ∀ (l : Loc), (maskL T l).look t = if T t = true then l.look t else .unk
  | .nil => by
    unfold maskL
    have : Loc.look .nil t = .unk := rfl
    rw [this]; simp
  | .cons u v r => by
    unfold maskL
    by_cases hu : T u = true
    · rw [if_pos hu, loc_look_cons, loc_look_cons, loc_mask T t r]
      cases e : Nat.beq u t with
      | true =>
        have : u = t := Nat.eq_of_beq_eq_true e
        subst this
        simp [hu]
      | false => simp only [cond_false]
    · rw [if_neg hu, loc_mask T t r, loc_look_cons]
      by_cases ht : T t = true
      · rw [if_pos ht, if_pos ht]
        cases e : Nat.beq u t with
        | true =>
          have : u = t := Nat.eq_of_beq_eq_true e
          subst this
          exact absurd ht hu
        | false => rfl
      · rw [if_neg ht, if_neg ht]
theorem look_mask {cx : Cx} (T : Nat → Bool) (env : List CV) (loc : Loc) (t : Nat) : look cx (maskE T cx.vars env) (maskL T loc) t = if T t = true then look cx env loc t else .unk := by
  unfold look
  cases hp : pos cx.vars t with
  | none => exact loc_mask T t loc
  | some k => exact nth_mask T cx.vars env t k hp
theorem ev_mask {cx : Cx} {T : Nat → Bool} {env : List CV} {loc : Loc} {x : Operand} (h : ∀ t, x = .tmp t → T t = true) : (ev cx x).f (maskE T cx.vars env) (maskL T loc) = (ev cx x).f env loc := by
  cases x with
  | tmp t =>
    show (evTmpAt t (pos cx.vars t)).f _ _ = (evTmpAt t (pos cx.vars t)).f _ _
    rw [evTmpAt_eq, evTmpAt_eq, look_mask, if_pos (h t rfl)]
  | const v => rfl
  | global g =>
    unfold ev
    simp only
    cases Nat.blt g cx.ng <;> rfl
  | func f => rfl
end Go.Proofs.YtonlahgagjejeaaGreatDoorX
