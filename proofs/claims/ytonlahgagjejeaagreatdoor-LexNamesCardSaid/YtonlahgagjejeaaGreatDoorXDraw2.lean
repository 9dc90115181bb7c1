/- Regions that draw their order (2): what stands ahead of what. -/
import Derived.Test.YtonlahgagjejeaaGreatDoorXDraw1
namespace Go.Proofs.YtonlahgagjejeaaGreatDoorX
open Go Go.RowKit
set_option linter.unusedVariables false

section
variable {ops : Array Oper}

theorem edgesOk_spec : ∀ (l : List Oper) (i : Nat), edgesOk i l = true → ∀ (j : Nat) (o : Oper), l[j]? = some o → ∀ e ∈ o.after, Region.binds .any e = true → e.on < i + j
  | [], i, _, j, o, h => by simp at h
  | x :: r, i, h, j, o, hj => by
    unfold edgesOk at h
    rw [Bool.and_eq_true] at h
    cases j with
    | zero =>
      simp at hj
      subst hj
      intro e he hb
      have := List.all_eq_true.1 h.1 e (by simpa using he)
      rw [hb] at this
      simp only [Bool.not_true, Bool.false_or] at this
      simpa [Nat.blt_eq] using this
    | succ j =>
      simp at hj
      intro e he hb
      have := edgesOk_spec r (i + 1) h.2 j o hj e he hb
      omega

theorem maskOf_bit : ∀ (acc : List Nat) (es : List Edge) (i : Nat), Nat.testBit (maskOf acc es) i = true → ∃ e ∈ es, Region.binds .any e = true ∧ (i = e.on ∨ Nat.testBit (acc.getD e.on 0) i = true)
  | acc, [], i, h => by simp [maskOf] at h
  | acc, e :: r, i, h => by
    unfold maskOf at h
    cases hb : Region.binds .any e with
    | false =>
      rw [hb] at h
      obtain ⟨e', h1, h2⟩ := maskOf_bit acc r i h
      exact ⟨e', by simp [h1], h2⟩
    | true =>
      rw [hb] at h
      simp only [cond_true] at h
      have h' : Nat.testBit (2 ^ e.on ||| (acc.getD e.on 0 ||| maskOf acc r)) i = true := h
      rw [Nat.testBit_or, Nat.testBit_or, Bool.or_eq_true, Bool.or_eq_true] at h'
      rcases h' with h1 | h1 | h1
      · rw [Nat.testBit_two_pow] at h1
        exact ⟨e, by simp, hb, .inl (by have := of_decide_eq_true h1; exact this.symm)⟩
      · exact ⟨e, by simp, hb, .inr h1⟩
      · obtain ⟨e', h1, h2⟩ := maskOf_bit acc r i h1
        exact ⟨e', by simp [h1], h2⟩

theorem ancs_prefix : ∀ (l : List Oper) (acc : List Nat), ∃ m, ancs l acc = acc ++ m ∧ m.length = l.length
  | [], acc => ⟨[], by simp [ancs], rfl⟩
  | o :: r, acc => by
    obtain ⟨m, h1, h2⟩ := ancs_prefix r (acc ++ [maskOf acc o.after.toList])
    exact ⟨maskOf acc o.after.toList :: m, by simp [ancs, h1], by simp [h2]⟩
theorem ancs_get : ∀ (l : List Oper) (acc : List Nat) (j : Nat) (o : Oper), l[j]? = some o → (ancs l acc).getD (acc.length + j) 0 = maskOf ((ancs l acc).take (acc.length + j)) o.after.toList
  | [], acc, j, o, h => by simp at h
  | x :: r, acc, 0, o, h => by
    simp at h
    subst h
    obtain ⟨m, h1, h2⟩ := ancs_prefix r (acc ++ [maskOf acc x.after.toList])
    unfold ancs
    rw [h1]
    simp [List.getD]
  | x :: r, acc, j + 1, o, h => by
    simp at h
    have := ancs_get r (acc ++ [maskOf acc x.after.toList]) j o h
    unfold ancs
    simp only [List.length_append, List.length_cons, List.length_nil] at this
    rw [show acc.length + (j + 1) = acc.length + (0 + 1) + j by omega]
    exact this

/-- what an operation waits for, directly or not -/
theorem anc_spec (hE : edgesOk 0 ops.toList = true) {j i : Nat} {o : Oper} (hj : ops[j]? = some o) (h : Nat.testBit ((ancs ops.toList []).getD j 0) i = true) :
    ∃ e ∈ o.after, Region.binds .any e = true ∧ e.on < j ∧ (i = e.on ∨ Nat.testBit ((ancs ops.toList []).getD e.on 0) i = true) := by
  have hj' : ops.toList[j]? = some o := by simpa using hj
  have h1 := ancs_get ops.toList [] j o hj'
  simp only [List.length_nil, Nat.zero_add] at h1
  rw [h1] at h
  obtain ⟨e, he, hb, hor⟩ := maskOf_bit _ _ _ h
  have he' : e ∈ o.after := by simpa using he
  have hlt := edgesOk_spec ops.toList 0 hE j o hj' e he' hb
  rw [Nat.zero_add] at hlt
  refine ⟨e, he', hb, hlt, hor.imp id fun h => ?_⟩
  have : ((ancs ops.toList []).take j).getD e.on 0 = (ancs ops.toList []).getD e.on 0 := by
    simp only [List.getD, List.getElem?_take_of_lt hlt]
  rw [← this]; exact h

/-- the listed operations bring those that they wait for -/
def DC (ops : Array Oper) (listed : Array Bool) : Prop :=
  ∀ j o, ops[j]? = some o → listed.getD j false = true → ∀ e ∈ o.after, Region.binds .any e = true → listed.getD e.on false = true

theorem anc_listed (hE : edgesOk 0 ops.toList = true) {listed : Array Bool} (hdc : DC ops listed) : ∀ (j : Nat) (o : Oper) (i : Nat), ops[j]? = some o →
    (∀ e ∈ o.after, Region.binds .any e = true → listed.getD e.on false = true) → Nat.testBit ((ancs ops.toList []).getD j 0) i = true → listed.getD i false = true := by
  intro j
  induction j using Nat.strongRecOn with
  | _ j ih =>
    intro o i hj hdeps h
    obtain ⟨e, he, hb, hlt, hor⟩ := anc_spec hE hj h
    have hl := hdeps e he hb
    rcases hor with rfl | hbit
    · exact hl
    · cases ho : ops[e.on]? with
      | none =>
        have hjlt := (Array.getElem?_eq_some_iff.1 hj).1
        rw [Array.getElem?_eq_none_iff] at ho
        omega
      | some oe => exact ih e.on hlt oe i ho (hdc e.on oe ho hl) hbit

variable {P : Program}

theorem pairsOk_spec {A : List Nat} (h : pairsOk P ops A = true) {i j : Nat} {x y : Oper} (hi : ops[i]? = some x) (hj : ops[j]? = some y) (hlt : i < j) :
    Nat.testBit (A.getD j 0) i = true ∨ ((reads P x.op = true ∨ reads P y.op = true) ∧ Oper.apart ops x y = true) := by
  unfold pairsOk at h
  have hjlt : j < ops.size := (Array.getElem?_eq_some_iff.1 hj).1
  have h1 := List.all_eq_true.1 (List.all_eq_true.1 h j (by simpa using hjlt)) i (by simpa using hlt)
  unfold pairOk at h1
  rw [hi, hj] at h1
  simp only [Bool.or_eq_true, Bool.and_eq_true] at h1
  exact h1

/-! ## Counting the operations that change the state -/
def chg (P : Program) (ops : Array Oper) (j : Nat) : Bool := match ops[j]? with
  | some o => !reads P o.op
  | none => false

theorem changersAt_eq : ∀ (l : List Oper) (i : Nat), changersAt P i l = (List.range' i l.length).filter fun c => match l[c - i]? with | some o => !reads P o.op | none => false
  | [], i => rfl
  | o :: r, i => by
    unfold changersAt
    rw [changersAt_eq r (i + 1)]
    simp only [List.length_cons, List.range'_succ]
    have key : (List.range' (i + 1) r.length).filter (fun c => match r[c - (i + 1)]? with | some o => !reads P o.op | none => false) =
        (List.range' (i + 1) r.length).filter (fun c => match (o :: r)[c - i]? with | some o => !reads P o.op | none => false) := by
      apply List.filter_congr
      intro c hc
      have : i + 1 ≤ c := (List.mem_range'_1.1 hc).1
      rw [show c - i = (c - (i + 1)) + 1 by omega, List.getElem?_cons_succ]
    rw [List.filter_cons]
    simp only [Nat.sub_self, List.getElem?_cons_zero]
    cases reads P o.op <;> simp [key]
theorem changers_eq : changersAt P 0 ops.toList = (List.range ops.size).filter (chg P ops) := by
  rw [changersAt_eq, Array.length_toList, ← List.range_eq_range']
  apply List.filter_congr
  intro c _
  simp [chg]
theorem filter_count (p : Nat → Bool) : ((changersAt P 0 ops.toList).filter p).length = (List.range ops.size).countP fun c => chg P ops c && p c := by
  rw [changers_eq, List.filter_filter, List.countP_eq_length_filter]
  congr 1
  apply List.filter_congr
  intro c _
  rw [Bool.and_comm]

/-- how many changers are listed -/
def kD (P : Program) (ops : Array Oper) (listed : Array Bool) : Nat := (List.range ops.size).countP fun c => chg P ops c && listed.getD c false
/-- how many changers stand ahead in the text -/
def kI (P : Program) (ops : Array Oper) (i : Nat) : Nat := (List.range i).countP (chg P ops)
theorem kI_succ (i : Nat) : kI P ops (i + 1) = kI P ops i + (if chg P ops i then 1 else 0) := by
  unfold kI
  rw [List.range_succ, List.countP_append, List.countP_singleton]
theorem count_lt : ∀ (n i : Nat), i ≤ n → ((List.range n).countP fun c => chg P ops c && decide (c < i)) = kI P ops i
  | 0, i, h => by
    have : i = 0 := by omega
    subst this; rfl
  | n + 1, i, h => by
    rw [List.range_succ, List.countP_append, List.countP_singleton]
    by_cases hi : i ≤ n
    · rw [count_lt n i hi]
      have : ¬ n < i := by omega
      simp [this]
    · have : i = n + 1 := by omega
      subst this
      rw [kI_succ]
      congr 1
      · unfold kI
        apply List.countP_congr
        intro c hc
        have : c < n := by simpa using hc
        have h2 : c < n + 1 := by omega
        simp [h2]
      · simp
theorem kD_of {listed : Array Bool} {i : Nat} (hi : i ≤ ops.size) (h : ∀ c, chg P ops c = true → c < ops.size → (listed.getD c false = true ↔ c < i)) : kD P ops listed = kI P ops i := by
  rw [← count_lt ops.size i hi]
  unfold kD
  apply List.countP_congr
  intro c hc
  have hc' : c < ops.size := by simpa using hc
  simp only [Bool.and_eq_true, decide_eq_true_eq]
  constructor
  · rintro ⟨h1, h2⟩; exact ⟨h1, (h c h1 hc').1 h2⟩
  · rintro ⟨h1, h2⟩; exact ⟨h1, (h c h1 hc').2 h2⟩
theorem kD_same {listed : Array Bool} {i : Nat} (h : chg P ops i = false) : kD P ops (listed.setIfInBounds i true) = kD P ops listed := by
  unfold kD
  apply List.countP_congr
  intro c hc
  by_cases hci : c = i
  · subst hci; simp [h]
  · rw [getD_set_ne false (Ne.symm hci)]

/-! ## The run in the text's order -/
section
variable {P : Program} {cx : Cx} {call : Caller} {all : List Oper}

def GuardIs (cx : Cx) (all : List Oper) (g : Option (Nat × Bool)) (env : List CV) (loc : Loc) (b : Bool) : Prop := ∀ K : Bool → R, (guardF cx all g).f env loc K = K b
def PutIs (cx : Cx) (d : Option Nat) (v : CV) (env : List CV) (loc : Loc) (env1 : List CV) (loc1 : Loc) : Prop := ∀ (K : List CV → Loc → St → R) (st : St), (put cx d).f v env loc K st = K env1 loc1 st

theorem guard_is (g : Option (Nat × Bool)) (env : List CV) (loc : Loc) : (∃ b, GuardIs cx all g env loc b) ∨ ∃ n, ∀ K : Bool → R, (guardF cx all g).f env loc K = .err n := by
  unfold GuardIs guardF
  cases g with
  | none => exact .inl ⟨true, fun _ => rfl⟩
  | some jw =>
    obtain ⟨j, wt⟩ := jw
    simp only
    cases all[j]? with
    | none => exact .inl ⟨false, fun _ => rfl⟩
    | some o =>
      simp only
      cases o.dst with
      | none => exact .inl ⟨false, fun _ => rfl⟩
      | some d =>
        simp only
        cases (evTmpAt d (pos cx.vars d)).f env loc <;> first | exact .inr ⟨_, fun _ => rfl⟩ | exact .inl ⟨_, fun _ => rfl⟩
theorem put_is (d : Option Nat) (v : CV) (env : List CV) (loc : Loc) : (∃ env1 loc1, PutIs cx d v env loc env1 loc1) ∨ ∃ n, ∀ (K : List CV → Loc → St → R) (st : St), (put cx d).f v env loc K st = .err n := by
  unfold PutIs put
  cases d with
  | none => exact .inl ⟨_, _, fun _ _ => rfl⟩
  | some t =>
    simp only
    cases Nat.blt t cx.nt with
    | false => exact .inr ⟨_, fun _ _ => rfl⟩
    | true =>
      simp only [putAt]
      cases pos cx.vars t <;> exact .inl ⟨_, _, fun _ _ => rfl⟩
theorem put_look {d : Option Nat} {v : CV} {env env1 : List CV} {loc loc1 : Loc} (h : PutIs cx d v env loc env1 loc1) :
    (∀ t, d = some t → t < cx.nt) ∧ ∀ u, look cx env1 loc1 u = .unk ∨ look cx env1 loc1 u = if d = some u then v else look cx env loc u := by
  unfold PutIs put at h
  cases d with
  | none =>
    have h' := h (fun env loc st => .ok (.exit 0) env ⟨st.heap, st.next, []⟩) ⟨.nil, 0, []⟩
    have he : env = env1 := by simpa using h'
    have hl : ∀ u, loc.look u = loc1.look u := fun u => by
      have := h (fun _ l _ => .ok (.panic (l.look u)) [] ⟨.nil, 0, []⟩) ⟨.nil, 0, []⟩
      simpa using this
    subst he
    refine ⟨(fun t ht => by cases ht), fun u => .inr ?_⟩
    rw [if_neg (by simp)]
    unfold look
    split
    · rfl
    · exact (hl u).symm
  | some t =>
    simp only at h
    cases hb : Nat.blt t cx.nt with
    | false =>
      rw [hb] at h
      have := h (fun _ _ _ => .ok .normal [] ⟨.nil, 0, []⟩) ⟨.nil, 0, []⟩
      cases this
    | true =>
      rw [hb] at h
      simp only [putAt] at h
      refine ⟨(fun t' ht => by cases ht; simpa [Nat.blt_eq] using hb), fun u => ?_⟩
      cases hp : pos cx.vars t with
      | some k =>
        rw [hp] at h
        have he : setNth env v k = env1 := by
          have := h (fun e _ _ => .ok .normal e ⟨.nil, 0, []⟩) ⟨.nil, 0, []⟩
          simpa using this
        have hl : loc.look u = loc1.look u := by
          have := h (fun _ l _ => .ok (.panic (l.look u)) [] ⟨.nil, 0, []⟩) ⟨.nil, 0, []⟩
          simpa using this
        subst he
        unfold look
        cases hpu : pos cx.vars u with
        | none =>
          simp only
          have hne : t ≠ u := fun e => by subst e; rw [hp] at hpu; cases hpu
          rw [if_neg (by simpa using hne)]
          exact .inr hl.symm
        | some j =>
          simp only
          rw [nth_setNth]
          by_cases htu : t = u
          · subst htu
            rw [hp] at hpu; cases hpu
            by_cases hk : k < env.length
            · rw [if_pos ⟨rfl, hk⟩, if_pos rfl]; exact .inr rfl
            · rw [if_neg (by omega), nth_ge env k (by omega)]; exact .inl rfl
          · have hjk : j ≠ k := fun e => by subst e; exact htu (pos_inj hp hpu)
            rw [if_neg (by omega), if_neg (by simpa using htu)]; exact .inr rfl
      | none =>
        rw [hp] at h
        have he : env = env1 := by
          have := h (fun e _ _ => .ok .normal e ⟨.nil, 0, []⟩) ⟨.nil, 0, []⟩
          simpa using this
        have hl : (Loc.cons t v loc).look u = loc1.look u := by
          have := h (fun _ l _ => .ok (.panic (l.look u)) [] ⟨.nil, 0, []⟩) ⟨.nil, 0, []⟩
          simpa using this
        subst he
        unfold look
        cases hpu : pos cx.vars u with
        | some j =>
          simp only
          have hne : t ≠ u := fun e => by subst e; rw [hp] at hpu; cases hpu
          rw [if_neg (by simpa using hne)]
          exact .inr rfl
        | none =>
          simp only
          rw [← hl, loc_look_cons]
          by_cases htu : t = u
          · subst htu
            rw [if_pos rfl, show Nat.beq t t = true from Nat.beq_refl t]; exact .inr rfl
          · rw [if_neg (by simpa using htu)]
            have : Nat.beq t u = false := by
              cases hx : Nat.beq t u with
              | false => rfl
              | true => exact absurd (Nat.eq_of_beq_eq_true hx) htu
            rw [this]; exact .inr rfl

inductive Chain (P : Program) (cx : Cx) (call : Caller) (all : List Oper) : List Oper → List CV → Loc → St → List Rec → List CV → Loc → St → Prop
  | nil (env : List CV) (loc : Loc) (st : St) : Chain P cx call all [] env loc st [] env loc st
  | cons {o : Oper} {r : List Oper} {env : List CV} {loc : Loc} {st : St} {v : CV} {b : Bool} {st1 : St} {env1 : List CV} {loc1 : Loc} {recs : List Rec} {env2 : List CV} {loc2 : Loc} {st2 : St}
      (hg : GuardIs cx all o.guard env loc b) (ht : b = true → (opF P cx o.op).f call env loc st = .ok v st1) (hf : b = false → v = .tup [] ∧ st1 = st)
      (hp : PutIs cx o.dst v env loc env1 loc1) (hc : Chain P cx call all r env1 loc1 st1 recs env2 loc2 st2) :
      Chain P cx call all (o :: r) env loc st (⟨o, env, loc, st, v, b⟩ :: recs) env2 loc2 st2

theorem drawRun_chain : ∀ (l : List Oper) (env : List CV) (loc : Loc) (st : St) (K : List Rec → List CV → St → R) (e : Ex) (env2 : List CV) (st2 : St), (drawRun P cx all l).f call env loc st K = .ok e env2 st2 →
    ∃ recs env1 loc1 st1, K recs env1 st1 = .ok e env2 st2 ∧ Chain P cx call all l env loc st recs env1 loc1 st1
  | [], env, loc, st, K, e, env2, st2, h => ⟨[], env, loc, st, h, .nil _ _ _⟩
  | o :: r, env, loc, st, K, e, env2, st2, h => by
    unfold drawRun at h
    simp only at h
    rcases guard_is (cx := cx) (all := all) o.guard env loc with ⟨b, hb⟩ | ⟨n, hn⟩
    · rw [hb] at h
      cases b with
      | true =>
        simp only at h
        cases hop : (opF P cx o.op).f call env loc st with
        | err n => rw [hop] at h; cases h
        | pan v s => rw [hop] at h; cases h
        | ok v st' =>
          rw [hop] at h
          simp only at h
          rcases put_is (cx := cx) o.dst v env loc with ⟨env1, loc1, hp⟩ | ⟨n, hn⟩
          · rw [hp] at h
            obtain ⟨recs, e1, l1, s1, h1, h2⟩ := drawRun_chain r env1 loc1 st' _ e env2 st2 h
            exact ⟨_, e1, l1, s1, h1, .cons hb (fun _ => hop) (fun h => by cases h) hp h2⟩
          · rw [hn] at h; cases h
      | false =>
        simp only at h
        rcases put_is (cx := cx) o.dst (.tup []) env loc with ⟨env1, loc1, hp⟩ | ⟨n, hn⟩
        · rw [hp] at h
          obtain ⟨recs, e1, l1, s1, h1, h2⟩ := drawRun_chain r env1 loc1 st _ e env2 st2 h
          exact ⟨_, e1, l1, s1, h1, .cons hb (fun h => by cases h) (fun _ => ⟨rfl, rfl⟩) hp h2⟩
        · rw [hn] at h; cases h
    · rw [hn] at h; cases h
end
end
end Go.Proofs.YtonlahgagjejeaaGreatDoorX
