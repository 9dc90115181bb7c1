/- Regions that draw their order (2): what stands ahead of what. Regions that draw their order (3): whatever the order, the end is the same. Blocks that are made ahead; stores without an order. -/
import Derived.Test.YtbmbjaogcmokoaaGreatDoorX6
namespace Go.Proofs.YtbmbjaogcmokoaaGreatDoorX
open Go Go.RowKit
set_option linter.unusedVariables false

section
variable {ops : Array Oper}

theorem edgesOk_spec : ∀ (l : List Oper) (i : Nat), edgesOk i l = true → ∀ (j : Nat) (o : Oper), l[j]? = some o → ∀ e ∈ o.after, Region.binds .any e = true → e.on < i + j
  | [], i, _, j, o, h => by simp at h
  | x :: r, i, h, j, o, hj => by
    unfold edgesOk at h
    rw [Bool.and_eq_true] at h
    cases j with
    | zero =>
      simp at hj
      subst hj
      intro e he hb
      have := List.all_eq_true.1 h.1 e (by simpa using he)
      rw [hb] at this
      simp only [Bool.not_true, Bool.false_or] at this
      simpa [Nat.blt_eq] using this
    | succ j =>
      simp at hj
      intro e he hb
      have := edgesOk_spec r (i + 1) h.2 j o hj e he hb
      omega

theorem maskOf_bit : ∀ (acc : List Nat) (es : List Edge) (i : Nat), Nat.testBit (maskOf acc es) i = true → ∃ e ∈ es, Region.binds .any e = true ∧ (i = e.on ∨ Nat.testBit (acc.getD e.on 0) i = true)
  | acc, [], i, h => by simp [maskOf] at h
  | acc, e :: r, i, h => by
    unfold maskOf at h
    cases hb : Region.binds .any e with
    | false =>
      rw [hb] at h
      obtain ⟨e', h1, h2⟩ := maskOf_bit acc r i h
      exact ⟨e', by simp [h1], h2⟩
    | true =>
      rw [hb] at h
      simp only [cond_true] at h
      have h' : Nat.testBit (2 ^ e.on ||| (acc.getD e.on 0 ||| maskOf acc r)) i = true := h
      rw [Nat.testBit_or, Nat.testBit_or, Bool.or_eq_true, Bool.or_eq_true] at h'
      rcases h' with h1 | h1 | h1
      · rw [Nat.testBit_two_pow] at h1
        exact ⟨e, by simp, hb, .inl (by have := of_decide_eq_true h1; exact this.symm)⟩
      · exact ⟨e, by simp, hb, .inr h1⟩
      · obtain ⟨e', h1, h2⟩ := maskOf_bit acc r i h1
        exact ⟨e', by simp [h1], h2⟩

theorem ancs_prefix : ∀ (l : List Oper) (acc : List Nat), ∃ m, ancs l acc = acc ++ m ∧ m.length = l.length
  | [], acc => ⟨[], by simp [ancs], rfl⟩
  | o :: r, acc => by
    obtain ⟨m, h1, h2⟩ := ancs_prefix r (acc ++ [maskOf acc o.after.toList])
    exact ⟨maskOf acc o.after.toList :: m, by simp [ancs, h1], by simp [h2]⟩
theorem ancs_get : ∀ (l : List Oper) (acc : List Nat) (j : Nat) (o : Oper), l[j]? = some o → (ancs l acc).getD (acc.length + j) 0 = maskOf ((ancs l acc).take (acc.length + j)) o.after.toList
  | [], acc, j, o, h => by simp at h
  | x :: r, acc, 0, o, h => by
    simp at h
    subst h
    obtain ⟨m, h1, h2⟩ := ancs_prefix r (acc ++ [maskOf acc x.after.toList])
    unfold ancs
    rw [h1]
    simp [List.getD]
  | x :: r, acc, j + 1, o, h => by
    simp at h
    have := ancs_get r (acc ++ [maskOf acc x.after.toList]) j o h
    unfold ancs
    simp only [List.length_append, List.length_cons, List.length_nil] at this
    rw [show acc.length + (j + 1) = acc.length + (0 + 1) + j by omega]
    exact this

/-- what an operation waits for, directly or not -/
theorem anc_spec (hE : edgesOk 0 ops.toList = true) {j i : Nat} {o : Oper} (hj : ops[j]? = some o) (h : Nat.testBit ((ancs ops.toList []).getD j 0) i = true) :
    ∃ e ∈ o.after, Region.binds .any e = true ∧ e.on < j ∧ (i = e.on ∨ Nat.testBit ((ancs ops.toList []).getD e.on 0) i = true) := by
  have hj' : ops.toList[j]? = some o := by simpa using hj
  have h1 := ancs_get ops.toList [] j o hj'
  simp only [List.length_nil, Nat.zero_add] at h1
  rw [h1] at h
  obtain ⟨e, he, hb, hor⟩ := maskOf_bit _ _ _ h
  have he' : e ∈ o.after := by simpa using he
  have hlt := edgesOk_spec ops.toList 0 hE j o hj' e he' hb
  rw [Nat.zero_add] at hlt
  refine ⟨e, he', hb, hlt, hor.imp id fun h => ?_⟩
  have : ((ancs ops.toList []).take j).getD e.on 0 = (ancs ops.toList []).getD e.on 0 := by
    simp only [List.getD, List.getElem?_take_of_lt hlt]
  rw [← this]; exact h

/-- the listed operations bring those that they wait for -/
def DC (ops : Array Oper) (listed : Array Bool) : Prop :=
  ∀ j o, ops[j]? = some o → listed.getD j false = true → ∀ e ∈ o.after, Region.binds .any e = true → listed.getD e.on false = true

theorem anc_listed (hE : edgesOk 0 ops.toList = true) {listed : Array Bool} (hdc : DC ops listed) : ∀ (j : Nat) (o : Oper) (i : Nat), ops[j]? = some o →
    (∀ e ∈ o.after, Region.binds .any e = true → listed.getD e.on false = true) → Nat.testBit ((ancs ops.toList []).getD j 0) i = true → listed.getD i false = true := by
  intro j
  induction j using Nat.strongRecOn with
  | _ j ih =>
    intro o i hj hdeps h
    obtain ⟨e, he, hb, hlt, hor⟩ := anc_spec hE hj h
    have hl := hdeps e he hb
    rcases hor with rfl | hbit
    · exact hl
    · cases ho : ops[e.on]? with
      | none =>
        have hjlt := (Array.getElem?_eq_some_iff.1 hj).1
        rw [Array.getElem?_eq_none_iff] at ho
        omega
      | some oe => exact ih e.on hlt oe i ho (hdc e.on oe ho hl) hbit

/-- what is waited for stands ahead in the text -/
theorem anc_lt (hE : edgesOk 0 ops.toList = true) : ∀ (j i : Nat), Nat.testBit ((ancs ops.toList []).getD j 0) i = true → i < j := by
  intro j
  induction j using Nat.strongRecOn with
  | _ j ih =>
    intro i h
    cases ho : ops[j]? with
    | none =>
      exfalso
      obtain ⟨m, h1, h2⟩ := ancs_prefix ops.toList []
      rw [Array.getElem?_eq_none_iff] at ho
      have : (ancs ops.toList []).getD j 0 = 0 := by
        rw [h1]
        simp only [List.nil_append, List.getD]
        rw [List.getElem?_eq_none (by rw [h2]; simpa using ho)]
        rfl
      rw [this] at h
      simp at h
    | some o =>
      obtain ⟨e, he, hb, hlt, hor⟩ := anc_spec hE ho h
      rcases hor with rfl | hbit
      · exact hlt
      · have := ih e.on hlt i hbit
        omega

variable {P : Program} {fl : Bool} {sw : Option (Nat × Nat)}

theorem pairsOk_spec {A : List Nat} (h : pairsOk P fl sw ops A = true) {i j : Nat} {x y : Oper} (hi : ops[i]? = some x) (hj : ops[j]? = some y) (hlt : i < j) :
    Nat.testBit (A.getD j 0) i = true ∨ ((quiet P fl x = true ∨ quiet P fl y = true ∨ isSw sw i j = true) ∧ Oper.apart ops x y = true) := by
  unfold pairsOk at h
  have hjlt : j < ops.size := (Array.getElem?_eq_some_iff.1 hj).1
  have h1 := List.all_eq_true.1 (List.all_eq_true.1 h j (by simpa using hjlt)) i (by simpa using hlt)
  unfold pairOk at h1
  rw [hi, hj] at h1
  simp only [Bool.or_eq_true, Bool.and_eq_true] at h1
  exact h1
theorem isSw_spec {i j : Nat} (h : isSw sw i j = true) : sw = some (i, j) := by
  unfold isSw at h
  split at h
  · rw [Bool.and_eq_true] at h
    rw [Nat.eq_of_beq_eq_true h.1, Nat.eq_of_beq_eq_true h.2]
  · cases h

/-! ## Counting the operations that change the state -/
def chg (P : Program) (fl : Bool) (ops : Array Oper) (j : Nat) : Bool := match ops[j]? with
  | some o => !quiet P fl o
  | none => false

theorem changersAt_eq : ∀ (l : List Oper) (i : Nat), changersAt P fl i l = (List.range' i l.length).filter fun c => match l[c - i]? with | some o => !quiet P fl o | none => false
  | [], i => rfl
  | o :: r, i => by
    unfold changersAt
    rw [changersAt_eq r (i + 1)]
    simp only [List.length_cons, List.range'_succ]
    have key : (List.range' (i + 1) r.length).filter (fun c => match r[c - (i + 1)]? with | some o => !quiet P fl o | none => false) =
        (List.range' (i + 1) r.length).filter (fun c => match (o :: r)[c - i]? with | some o => !quiet P fl o | none => false) := by
      apply List.filter_congr
      intro c hc
      have : i + 1 ≤ c := (List.mem_range'_1.1 hc).1
      rw [show c - i = (c - (i + 1)) + 1 by omega, List.getElem?_cons_succ]
    rw [List.filter_cons]
    simp only [Nat.sub_self, List.getElem?_cons_zero]
    cases quiet P fl o <;> simp [key]
theorem changers_eq : changersAt P fl 0 ops.toList = (List.range ops.size).filter (chg P fl ops) := by
  rw [changersAt_eq, Array.length_toList, ← List.range_eq_range']
  apply List.filter_congr
  intro c _
  simp [chg]
theorem chg_lt {c : Nat} (h : chg P fl ops c = true) : c < ops.size := by
  unfold chg at h
  cases ho : ops[c]? with
  | none => rw [ho] at h; cases h
  | some o => exact (Array.getElem?_eq_some_iff.1 ho).1
theorem mem_changers {c : Nat} : c ∈ changersAt P fl 0 ops.toList ↔ chg P fl ops c = true := by
  rw [changers_eq, List.mem_filter]
  exact ⟨fun h => h.2, fun h => ⟨by simpa using chg_lt h, h⟩⟩
theorem filter_count (p : Nat → Bool) : ((changersAt P fl 0 ops.toList).filter p).length = (List.range ops.size).countP fun c => chg P fl ops c && p c := by
  rw [changers_eq, List.filter_filter, List.countP_eq_length_filter]
  congr 1
  apply List.filter_congr
  intro c _
  rw [Bool.and_comm]

/-- the last two changers -/
structure SwSpec (P : Program) (fl : Bool) (ops : Array Oper) (p q : Nat) : Prop where
  st1 : ∃ x, ops[p]? = some x ∧ isStore x = true
  st2 : ∃ y, ops[q]? = some y ∧ isStore y = true
  no : Nat.testBit ((ancs ops.toList []).getD q 0) p = false
  lt : p < q
  last : ∀ c, chg P fl ops c = true → c = p ∨ c = q ∨ c < p
  ear : ∀ j o, ops[j]? = some o → floats fl o = true → (Nat.testBit ((ancs ops.toList []).getD p 0) j = false ∧ Nat.testBit ((ancs ops.toList []).getD q 0) j = false) ∨
    ∃ c, chg P fl ops c = true ∧ c < p ∧ Nat.testBit ((ancs ops.toList []).getD c 0) j = true
theorem swOk_spec {p q : Nat} (h : swOk fl ops (ancs ops.toList []) (changersAt P fl 0 ops.toList) p q = true) : SwSpec P fl ops p q := by
  unfold swOk at h
  split at h
  · rename_i x y hx hy
    simp only [Bool.and_eq_true] at h
    obtain ⟨h1, h2, h3, h4, h5, h6⟩ := h
    refine ⟨⟨x, hx, h1⟩, ⟨y, hy, h2⟩, by simpa using h3, by simpa [Nat.blt_eq] using h4, fun c hc => ?_, fun j o hj hf => ?_⟩
    · have := List.all_eq_true.1 h5 c (mem_changers.2 hc)
      simp only [Bool.or_eq_true, Nat.blt_eq] at this
      exact this.imp Nat.eq_of_beq_eq_true (·.imp Nat.eq_of_beq_eq_true id)
    · unfold earlier at h6
      have := List.all_eq_true.1 h6 j (by simpa using (Array.getElem?_eq_some_iff.1 hj).1)
      rw [hj] at this
      simp only [hf, Bool.not_true, Bool.false_or, Bool.or_eq_true, Bool.and_eq_true] at this
      rcases this with h | h
      · exact .inl ⟨by simpa using h.1, by simpa using h.2⟩
      · obtain ⟨c, hc, hc2⟩ := List.any_eq_true.1 h
        rw [Bool.and_eq_true] at hc2
        exact .inr ⟨c, mem_changers.1 hc, by simpa [Nat.blt_eq] using hc2.1, hc2.2⟩
  · cases h
theorem swFor_spec {p q : Nat} (h : swFor P fl ops = some (p, q)) : SwSpec P fl ops p q := by
  unfold swFor swOf at h
  split at h
  · rename_i p' q' _
    cases hb : swOk fl ops (ancs ops.toList []) (changersAt P fl 0 ops.toList) p' q' with
    | false => rw [hb] at h; cases h
    | true => rw [hb] at h; cases h; exact swOk_spec hb
  · cases h
theorem drawStatic_spec (h : drawStatic P ops = some (fl, sw)) : drawStaticW P fl sw ops = true ∧ ∀ p q, sw = some (p, q) → SwSpec P fl ops p q := by
  unfold drawStatic at h
  cases h1 : drawStaticW P false none ops with
  | true => rw [h1] at h; cases h; exact ⟨h1, fun _ _ h => by cases h⟩
  | false =>
    rw [h1] at h
    simp only [cond_false] at h
    cases h2 : drawStaticW P true none ops with
    | true => rw [h2] at h; cases h; exact ⟨h2, fun _ _ h => by cases h⟩
    | false =>
      rw [h2] at h
      simp only [cond_false] at h
      cases h3 : drawStaticW P true (swFor P true ops) ops with
      | false => rw [h3] at h; cases h
      | true =>
        rw [h3] at h
        simp only [cond_true, Option.some.injEq, Prod.mk.injEq] at h
        obtain ⟨rfl, rfl⟩ := h
        exact ⟨h3, fun _ _ h => swFor_spec h⟩

/-- how many changers are listed -/
def kD (P : Program) (fl : Bool) (ops : Array Oper) (listed : Array Bool) : Nat := (List.range ops.size).countP fun c => chg P fl ops c && listed.getD c false
/-- how many changers stand ahead in the text -/
def kI (P : Program) (fl : Bool) (ops : Array Oper) (i : Nat) : Nat := (List.range i).countP (chg P fl ops)
theorem kI_succ (i : Nat) : kI P fl ops (i + 1) = kI P fl ops i + (if chg P fl ops i then 1 else 0) := by
  unfold kI
  rw [List.range_succ, List.countP_append, List.countP_singleton]
theorem count_lt : ∀ (n i : Nat), i ≤ n → ((List.range n).countP fun c => chg P fl ops c && decide (c < i)) = kI P fl ops i
  | 0, i, h => by
    have : i = 0 := by omega
    subst this; rfl
  | n + 1, i, h => by
    rw [List.range_succ, List.countP_append, List.countP_singleton]
    by_cases hi : i ≤ n
    · rw [count_lt n i hi]
      have : ¬ n < i := by omega
      simp [this]
    · have : i = n + 1 := by omega
      subst this
      rw [kI_succ]
      congr 1
      · unfold kI
        apply List.countP_congr
        intro c hc
        have : c < n := by simpa using hc
        have h2 : c < n + 1 := by omega
        simp [h2]
      · simp
theorem kD_of {listed : Array Bool} {i : Nat} (hi : i ≤ ops.size) (h : ∀ c, chg P fl ops c = true → (listed.getD c false = true ↔ c < i)) : kD P fl ops listed = kI P fl ops i := by
  rw [← count_lt ops.size i hi]
  unfold kD
  apply List.countP_congr
  intro c hc
  simp only [Bool.and_eq_true, decide_eq_true_eq]
  constructor
  · rintro ⟨h1, h2⟩; exact ⟨h1, (h c h1).1 h2⟩
  · rintro ⟨h1, h2⟩; exact ⟨h1, (h c h1).2 h2⟩
theorem kD_same {listed : Array Bool} {i : Nat} (h : chg P fl ops i = false) : kD P fl ops (listed.setIfInBounds i true) = kD P fl ops listed := by
  unfold kD
  apply List.countP_congr
  intro c hc
  by_cases hci : c = i
  · subst hci; simp [h]
  · rw [getD_set_ne false (Ne.symm hci)]
theorem kI_none {i n : Nat} (hin : i ≤ n) (h : ∀ c, i ≤ c → chg P fl ops c = false) : kI P fl ops n = kI P fl ops i := by
  obtain ⟨d, rfl⟩ := Nat.exists_eq_add_of_le hin
  induction d with
  | zero => rfl
  | succ d ih => rw [← Nat.add_assoc, kI_succ, ih (by omega), h (i + d) (by omega)]; simp

/-! ## The run in the text's order -/
section
variable {P : Program} {cx : Cx} {call : Caller} {all : List Oper} {fl : Bool} {A : List Nat} {base : Nat}

/-- an operation's answer: a value, or the panic that ends the region -/
def Np (pan : Pn) (i : Nat) : Prop := ∀ x, pan = some x → i ≠ x.1
def RunsTo (pan : Pn) (i : Nat) (stm : St) (r : RV) (v : CV) (st1 : St) : Prop := (r = .ok v st1 ∧ Np pan i) ∨ ∃ pv ps, r = .pan pv ps ∧ v = .unk ∧ st1 = stm ∧ pan = some (i, pv, ps)
/-- one operation of the run in the text's order -/
def StepR (P : Program) (cx : Cx) (call : Caller) (fl : Bool) (A : List Nat) (pan : Pn) (all : List Oper) (base i : Nat) (o : Oper) (env : List CV) (loc : Loc) (st : St) (pd : List (Nat × Obj)) (v : CV) (b : Bool) (st1 : St) (pd1 : List (Nat × Obj)) : Prop :=
  (floats fl o = true ∧ b = true ∧ st1 = st ∧ Np pan i ∧ ∃ st' ob, (opF P cx o.op).f call env loc ⟨.nil, base + i, []⟩ = .ok v st' ∧ st'.heap.get (base + i) = some ob ∧ pd1 = (i, ob) :: pd) ∨
  (floats fl o = false ∧ reads P o.op = true ∧ Np pan i ∧ GuardIs cx all o.guard env loc b ∧ (b = true → (opF P cx o.op).f call env loc st = .ok v st1) ∧ (b = false → v = .tup [] ∧ st1 = st) ∧ pd1 = pd) ∨
  (floats fl o = false ∧ reads P o.op = false ∧ ∃ stm, matF base (Nat.testBit (A.getD i 0)) pd st = some (stm, pd1) ∧ GuardIs cx all o.guard env loc b ∧ (b = true → RunsTo pan i stm ((opF P cx o.op).f call env loc stm) v st1) ∧ (b = false → v = .tup [] ∧ st1 = stm ∧ Np pan i)) ∨
  (deadAt A i pan = true ∧ v = .unk ∧ b = false ∧ st1 = st ∧ pd1 = bif quiet P fl o then pd else pd.filter fun x => !Nat.testBit (A.getD i 0) x.1)

structure Seq (P : Program) (cx : Cx) (call : Caller) (fl : Bool) (A : List Nat) (pan : Pn) (all : List Oper) (base i0 : Nat) (l : List Oper) (recs : List Rec) (E : Nat → List CV) (L : Nat → Loc) (S : Nat → St) (D : Nat → List (Nat × Obj)) : Prop where
  len : recs.length = l.length
  step : ∀ j r, recs[j]? = some r → l[j]? = some r.o ∧ r.env = E j ∧ r.loc = L j ∧ r.st = S j ∧ PutIs cx r.o.dst r.v (E j) (L j) (E (j + 1)) (L (j + 1)) ∧
    StepR P cx call fl A pan all base (i0 + j) r.o (E j) (L j) (S j) (D j) r.v r.wanted (S (j + 1)) (D (j + 1))

def put0 {α : Type} (x : α) (f : Nat → α) : Nat → α
  | 0 => x
  | n + 1 => f n

theorem Seq.cons {pan : Pn} {i0 : Nat} {o : Oper} {r : List Oper} {recs : List Rec} {E : Nat → List CV} {L : Nat → Loc} {S : Nat → St} {D : Nat → List (Nat × Obj)} {env env1 : List CV} {loc loc1 : Loc} {st st1 : St} {pd pd1 : List (Nat × Obj)} {v : CV} {b : Bool}
    (h : Seq P cx call fl A pan all base (i0 + 1) r recs E L S D) (hE : E 0 = env1) (hL : L 0 = loc1) (hS : S 0 = st1) (hD : D 0 = pd1)
    (hp : PutIs cx o.dst v env loc env1 loc1) (hs : StepR P cx call fl A pan all base i0 o env loc st pd v b st1 pd1) :
    Seq P cx call fl A pan all base i0 (o :: r) (⟨o, env, loc, st, v, b⟩ :: recs) (put0 env E) (put0 loc L) (put0 st S) (put0 pd D) where
  len := by simp [h.len]
  step := fun j x hx => by
    cases j with
    | zero =>
      simp at hx
      subst hx
      refine ⟨rfl, rfl, rfl, rfl, ?_, ?_⟩
      · show PutIs cx o.dst v env loc (E 0) (L 0)
        rw [hE, hL]; exact hp
      · show StepR P cx call fl A pan all base (i0 + 0) o env loc st pd v b (S 0) (D 0)
        rw [hS, hD]; exact hs
    | succ j =>
      obtain ⟨h1, h2, h3, h4, h5, h6⟩ := h.step j x (by simpa using hx)
      refine ⟨by simpa using h1, h2, h3, h4, h5, ?_⟩
      rw [show i0 + (j + 1) = i0 + 1 + j by omega]
      exact h6

theorem floats_guard {o : Oper} (h : floats fl o = true) : o.guard = none := by
  unfold floats at h
  rw [Bool.and_eq_true] at h
  have h2 := h.2
  unfold makes at h2
  split at h2
  · cases h2
  · assumption

/-- where a run that began with one ends with -/
def PanFrom (pn : Pn) (i n : Nat) (pan : Pn) : Prop := (∀ x, pn = some x → pan = some x ∧ x.1 < i) ∧ (pn = none → ∀ x, pan = some x → i ≤ x.1 ∧ x.1 < i + n)
theorem drawRun_seq : ∀ (l : List Oper) (i : Nat) (env : List CV) (loc : Loc) (st : St) (pd : List (Nat × Obj)) (pn : Pn) (K : List Rec → List CV → St → List (Nat × Obj) → Pn → R) (e : Ex) (env2 : List CV) (st2 : St),
    (drawRun P cx fl A all base l i).f call env loc st pd pn K = .ok e env2 st2 → (∀ x, pn = some x → x.1 < i) →
    ∃ recs E L S D pan, PanFrom pn i l.length pan ∧ K recs (E l.length) (S l.length) (D l.length) pan = .ok e env2 st2 ∧ Seq P cx call fl A pan all base i l recs E L S D ∧ E 0 = env ∧ L 0 = loc ∧ S 0 = st ∧ D 0 = pd
  | [], i, env, loc, st, pd, pn, K, e, env2, st2, h, hlt => ⟨[], fun _ => env, fun _ => loc, fun _ => st, fun _ => pd, pn, ⟨fun x hx => ⟨hx, hlt x hx⟩, fun hn x hx => by rw [hn] at hx; cases hx⟩, h, ⟨rfl, fun j r hj => by simp at hj⟩, rfl, rfl, rfl, rfl⟩
  | o :: r, i, env, loc, st, pd, pn, K, e, env2, st2, h, hlt => by
    have next : ∀ {v : CV} {b : Bool} {env1 : List CV} {loc1 : Loc} {st1 : St} {pd1 : List (Nat × Obj)}, PutIs cx o.dst v env loc env1 loc1 → (∀ pan, Np pan i → (∀ x, pn = some x → pan = some x) → StepR P cx call fl A pan all base i o env loc st pd v b st1 pd1) →
        (drawRun P cx fl A all base r (Nat.succ i)).f call env1 loc1 st1 pd1 pn (fun recs => K (⟨o, env, loc, st, v, b⟩ :: recs)) = .ok e env2 st2 →
        ∃ recs E L S D pan, PanFrom pn i (o :: r).length pan ∧ K recs (E (o :: r).length) (S (o :: r).length) (D (o :: r).length) pan = .ok e env2 st2 ∧ Seq P cx call fl A pan all base i (o :: r) recs E L S D ∧ E 0 = env ∧ L 0 = loc ∧ S 0 = st ∧ D 0 = pd := by
      intro v b env1 loc1 st1 pd1 hp hs h
      obtain ⟨recs, E, L, S, D, pan, h0, h1, h2, h3, h4, h5, h6⟩ := drawRun_seq r (i + 1) env1 loc1 st1 pd1 pn _ e env2 st2 h (fun x hx => Nat.lt_succ_of_lt (hlt x hx))
      have hnp : Np pan i := fun x hx e => by
        cases hpn : pn with
        | none => have := h0.2 hpn x hx; omega
        | some y =>
          have := (h0.1 y hpn).1
          rw [hx] at this; cases this
          have := hlt x hpn
          omega
      exact ⟨_, put0 env E, put0 loc L, put0 st S, put0 pd D, pan, ⟨fun x hx => ⟨(h0.1 x hx).1, hlt x hx⟩, fun hn x hx => by have := h0.2 hn x hx; simp only [List.length_cons]; omega⟩, h1, h2.cons h3 h4 h5 h6 hp (hs pan hnp fun x hx => (h0.1 x hx).1), rfl, rfl, rfl, rfl⟩
    unfold drawRun at h
    simp only at h
    cases hdead : deadAt A i pn with
    | true =>
      rw [hdead] at h
      simp only at h
      rcases put_is (cx := cx) o.dst .unk env loc with ⟨env1, loc1, hp⟩ | ⟨n, hn⟩
      · rw [hp] at h
        refine next hp (fun pan hnp hpan => .inr (.inr (.inr ⟨?_, rfl, rfl, rfl, rfl⟩))) h
        cases pn with
        | none => cases hdead
        | some x => rw [hpan x rfl]; exact hdead
      · rw [hn] at h; cases h
    | false =>
    rw [hdead] at h
    simp only at h
    cases hf : floats fl o with
    | true =>
      rw [hf] at h
      simp only [forceN_eq] at h
      cases hop : (opF P cx o.op).f call env loc ⟨.nil, Nat.add base i, []⟩ with
      | err n => rw [hop] at h; cases h
      | pan v s => rw [hop] at h; cases h
      | ok v st' =>
        rw [hop] at h
        obtain ⟨h', n', d'⟩ := st'
        simp only at h
        cases hg : h'.get (Nat.add base i) with
        | none => rw [hg] at h; cases h
        | some ob =>
          rw [hg] at h
          simp only at h
          rcases put_is (cx := cx) o.dst v env loc with ⟨env1, loc1, hp⟩ | ⟨n, hn⟩
          · rw [hp] at h
            exact next hp (fun _ hnp _ => .inl ⟨hf, rfl, rfl, hnp, _, ob, hop, hg, rfl⟩) h
          · rw [hn] at h; cases h
    | false =>
      rw [hf] at h
      simp only at h
      cases hr : reads P o.op with
      | true =>
        rw [hr] at h
        simp only at h
        rcases guard_is (cx := cx) (all := all) o.guard env loc with ⟨b, hb⟩ | ⟨n, hn⟩
        · rw [hb] at h
          cases b with
          | true =>
            simp only at h
            cases hop : (opF P cx o.op).f call env loc st with
            | err n => rw [hop] at h; cases h
            | pan v s => rw [hop] at h; cases h
            | ok v st' =>
              rw [hop] at h
              simp only at h
              rcases put_is (cx := cx) o.dst v env loc with ⟨env1, loc1, hp⟩ | ⟨n, hn⟩
              · rw [hp] at h
                exact next hp (fun _ hnp _ => .inr (.inl ⟨hf, hr, hnp, hb, fun _ => hop, (fun h => by cases h), rfl⟩)) h
              · rw [hn] at h; cases h
          | false =>
            simp only at h
            rcases put_is (cx := cx) o.dst (.tup []) env loc with ⟨env1, loc1, hp⟩ | ⟨n, hn⟩
            · rw [hp] at h
              exact next hp (fun _ hnp _ => .inr (.inl ⟨hf, hr, hnp, hb, (fun h => by cases h), fun _ => ⟨rfl, rfl⟩, rfl⟩)) h
            · rw [hn] at h; cases h
        · rw [hn] at h; cases h
      | false =>
        rw [hr] at h
        simp only at h
        cases hm : matF base (Nat.testBit (A.getD i 0)) pd st with
        | none => rw [hm] at h; cases h
        | some sp =>
          obtain ⟨stm, pd1⟩ := sp
          rw [hm] at h
          simp only at h
          rcases guard_is (cx := cx) (all := all) o.guard env loc with ⟨b, hb⟩ | ⟨n, hn⟩
          · rw [hb] at h
            cases b with
            | true =>
              simp only at h
              cases hop : (opF P cx o.op).f call env loc stm with
              | err n => rw [hop] at h; cases h
              | pan v s =>
                rw [hop] at h
                simp only at h
                cases pn with
                | some x => cases h
                | none =>
                  simp only at h
                  rcases put_is (cx := cx) o.dst .unk env loc with ⟨env1, loc1, hp⟩ | ⟨n, hn⟩
                  · rw [hp] at h
                    obtain ⟨recs, E, L, S, D, pan, h0, h1, h2, h3, h4, h5, h6⟩ := drawRun_seq r (i + 1) env1 loc1 stm pd1 (some (i, v, s)) _ e env2 st2 h (fun x hx => by cases hx; exact Nat.lt_succ_self i)
                    have hpan := (h0.1 _ rfl).1
                    exact ⟨_, put0 env E, put0 loc L, put0 st S, put0 pd D, pan, ⟨(fun x hx => by cases hx), fun _ x hx => by rw [hpan] at hx; cases hx; simp only [List.length_cons]; exact ⟨Nat.le_refl _, by omega⟩⟩, h1, h2.cons h3 h4 h5 h6 hp (.inr (.inr (.inl ⟨hf, hr, stm, hm, hb, fun _ => .inr ⟨v, s, hop, rfl, rfl, hpan⟩, fun h => by cases h⟩))), rfl, rfl, rfl, rfl⟩
                  · rw [hn] at h; cases h
              | ok v st' =>
                rw [hop] at h
                simp only at h
                rcases put_is (cx := cx) o.dst v env loc with ⟨env1, loc1, hp⟩ | ⟨n, hn⟩
                · rw [hp] at h
                  exact next hp (fun _ hnp _ => .inr (.inr (.inl ⟨hf, hr, stm, hm, hb, fun _ => .inl ⟨hop, hnp⟩, fun h => by cases h⟩))) h
                · rw [hn] at h; cases h
            | false =>
              simp only at h
              rcases put_is (cx := cx) o.dst (.tup []) env loc with ⟨env1, loc1, hp⟩ | ⟨n, hn⟩
              · rw [hp] at h
                exact next hp (fun _ hnp _ => .inr (.inr (.inl ⟨hf, hr, stm, hm, hb, (fun h => by cases h), fun _ => ⟨rfl, rfl, hnp⟩⟩))) h
              · rw [hn] at h; cases h
          · rw [hn] at h; cases h
end
end
end Go.Proofs.YtbmbjaogcmokoaaGreatDoorX

namespace Go.Proofs.YtbmbjaogcmokoaaGreatDoorX
open Go Go.RowKit
set_option linter.unusedVariables false

/-! ## The last value of a slot -/
def valF : List Rec → (Nat → Bool) → Nat → Nat → CV → CV
  | [], _, _, _, cur => cur
  | r :: rs, L, i, t, cur => valF rs L (i + 1) t (if L i = true ∧ r.o.dst = some t then r.v else cur)

theorem valF_cons (r : Rec) (rs : List Rec) (L : Nat → Bool) (i t : Nat) (cur : CV) : valF (r :: rs) L i t cur = valF rs L (i + 1) t (if L i = true ∧ r.o.dst = some t then r.v else cur) := rfl
theorem valF_congr : ∀ (recs : List Rec) (L L' : Nat → Bool) (i t : Nat) (cur : CV), (∀ j r, recs[j]? = some r → r.o.dst = some t → L (i + j) = L' (i + j)) → valF recs L i t cur = valF recs L' i t cur
  | [], _, _, _, _, _, _ => rfl
  | r :: rs, L, L', i, t, cur, h => by
    unfold valF
    have h0 : (if L i = true ∧ r.o.dst = some t then r.v else cur) = (if L' i = true ∧ r.o.dst = some t then r.v else cur) := by
      by_cases hd : r.o.dst = some t
      · have := h 0 r rfl hd
        rw [Nat.add_zero] at this
        rw [this]
      · simp [hd]
    rw [h0]
    exact valF_congr rs L L' (i + 1) t _ fun j r' hj hd => by
      have := h (j + 1) r' (by simpa using hj) hd
      rw [show i + 1 + j = i + (j + 1) by omega]; exact this
theorem valF_shift : ∀ (recs : List Rec) (L : Nat → Bool) (i t : Nat) (cur : CV), valF recs L (i + 1) t cur = valF recs (fun j => L (j + 1)) i t cur
  | [], _, _, _, _ => rfl
  | r :: rs, L, i, t, cur => by
    unfold valF
    exact valF_shift rs L (i + 1) t _
theorem valF_last : ∀ (recs : List Rec) (L : Nat → Bool) (i k t : Nat) (cur : CV) (ri : Rec), recs[k]? = some ri → ri.o.dst = some t → L (i + k) = true → (∀ j r, recs[j]? = some r → r.o.dst = some t → k < j → L (i + j) = false) → valF recs L i t cur = ri.v
  | [], _, _, _, _, _, _, h, _, _, _ => by simp at h
  | r :: rs, L, i, 0, t, cur, ri, h, hd, hl, hno => by
    simp at h
    subst h
    unfold valF
    rw [Nat.add_zero] at hl
    rw [if_pos ⟨hl, hd⟩]
    have : ∀ (rs : List Rec) (i : Nat) (c : CV), (∀ j r, rs[j]? = some r → r.o.dst = some t → L (i + j) = false) → valF rs L i t c = c := by
      intro rs
      induction rs with
      | nil => intro i c _; rfl
      | cons x xs ih =>
        intro i c hx
        unfold valF
        rw [ih (i + 1) _ fun j r hj hd => by
          have := hx (j + 1) r (by simpa using hj) hd
          rw [show i + 1 + j = i + (j + 1) by omega]; exact this]
        rw [if_neg]
        rintro ⟨h1, h2⟩
        have := hx 0 x rfl h2
        rw [Nat.add_zero] at this
        rw [this] at h1; cases h1
    exact this rs (i + 1) _ fun j r' hj hd' => by
      have := hno (j + 1) r' (by simpa using hj) hd' (by omega)
      rw [show i + 1 + j = i + (j + 1) by omega]; exact this
  | r :: rs, L, i, k + 1, t, cur, ri, h, hd, hl, hno => by
    unfold valF
    refine valF_last rs L (i + 1) k t _ ri (by simpa using h) hd (by rw [show i + 1 + k = i + (k + 1) by omega]; exact hl) fun j r' hj hd' hlt => ?_
    have := hno (j + 1) r' (by simpa using hj) hd' (by omega)
    rw [show i + 1 + j = i + (j + 1) by omega]; exact this

theorem valF_le : ∀ (recs : List Rec) (L : Nat → Bool) (i t : Nat) (c c' : CV), LeV c c' → LeV (valF recs L i t c) (valF recs L i t c')
  | [], _, _, _, _, _, h => h
  | r :: rs, L, i, t, c, c', h => by
    unfold valF
    refine valF_le rs L (i + 1) t _ _ ?_
    by_cases hc : L i = true ∧ r.o.dst = some t
    · rw [if_pos hc, if_pos hc]; exact .inr rfl
    · rw [if_neg hc, if_neg hc]; exact h

theorem valF_step (recs : List Rec) (i t : Nat) (c : CV) (r : Rec) (h : recs[i]? = some r) :
    valF recs (fun j => decide (j < i + 1)) 0 t c = if r.o.dst = some t then r.v else valF recs (fun j => decide (j < i)) 0 t c := by
  by_cases hd : r.o.dst = some t
  · rw [if_pos hd]
    exact valF_last recs _ 0 i t c r h hd (by simp) fun j rj _ _ hlt => by simp; omega
  · rw [if_neg hd]
    refine valF_congr recs _ _ 0 t c fun j rj hj hdj => ?_
    rw [Nat.zero_add]
    by_cases e : j = i
    · subst e
      rw [h] at hj; cases hj
      exact absurd hdj hd
    · have : (j < i + 1) = (j < i) := by rw [eq_iff_iff]; omega
      simp only [this]

theorem valF_none : ∀ (recs : List Rec) (L : Nat → Bool) (i t : Nat) (c : CV), (∀ (j : Nat) (r : Rec), recs[j]? = some r → r.o.dst ≠ some t) → valF recs L i t c = c
  | [], _, _, _, _, _ => rfl
  | r :: rs, L, i, t, c, h => by
    rw [valF_cons, if_neg (fun k => h 0 r rfl k.2)]
    exact valF_none rs L (i + 1) t c fun j x hx => h (j + 1) x (by simpa using hx)
theorem unwritten_spec : ∀ (l : List Oper) (t : Nat), unwritten l t = true → ∀ o ∈ l, o.dst ≠ some t
  | [], _, _, _, h => by simp at h
  | x :: r, t, h, o, ho => by
    unfold unwritten at h
    rw [List.mem_cons] at ho
    cases hd : x.dst with
    | none =>
      rw [hd] at h
      rcases ho with rfl | ho
      · rw [hd]; simp
      · exact unwritten_spec r t h o ho
    | some d =>
      rw [hd] at h
      simp only [Bool.and_eq_true, Bool.not_eq_true'] at h
      rcases ho with rfl | ho
      · rw [hd]
        intro e
        have e' : d = t := Option.some.inj e
        subst e'
        rw [show Nat.beq d d = true from Nat.beq_refl d] at h
        cases h.1
      · exact unwritten_spec r t h.2 o ho
section
variable {P : Program} {cx : Cx} {call : Caller} {fl : Bool} {A : List Nat} {base : Nat} {ops : Array Oper} {recs : List Rec} {E : Nat → List CV} {L : Nat → Loc} {S : Nat → St} {D : Nat → List (Nat × Obj)} {pan : Pn}

theorem quiet_floats {o : Oper} (h : floats fl o = true) : quiet P fl o = true := by simp [quiet, h]
theorem stepR_quiet {all : List Oper} {i : Nat} {o : Oper} {env : List CV} {loc : Loc} {st st1 : St} {pd pd1 : List (Nat × Obj)} {v : CV} {b : Bool} (h : StepR P cx call fl A pan all base i o env loc st pd v b st1 pd1) (hq : quiet P fl o = true) : st1 = st := by
  rcases h with ⟨_, _, h, _⟩ | ⟨_, hr, _, _, h1, h2, _⟩ | ⟨hf, hr, _⟩ | ⟨_, _, _, h, _⟩
  · exact h
  · cases b with
    | true => exact reads_keep hr (h1 rfl)
    | false => exact (h2 rfl).2
  · simp [quiet, hf, hr] at hq
  · exact h

/-- the states ahead of the changers -/
theorem states_get : ∀ (recs : List Rec) (S : Nat → St), (∀ j r, recs[j]? = some r → r.st = S j ∧ (quiet P fl r.o = true → S (j + 1) = S j)) →
    ∀ i, i ≤ recs.length → (statesOf P fl recs (S recs.length))[(recs.take i).countP fun r => !quiet P fl r.o]? = some (S i)
  | [], S, _, i, h => by
    have : i = 0 := by simpa using h
    subst this
    rfl
  | r :: rs, S, h, i, hi => by
    have h0 := h 0 r rfl
    have ih := states_get rs (fun j => S (j + 1)) (fun j x hx => h (j + 1) x (by simpa using hx))
    unfold statesOf
    cases hq : quiet P fl r.o with
    | true =>
      simp only [cond_true, List.length_cons]
      cases i with
      | zero =>
        have := ih 0 (by omega)
        simp only [List.take_zero, List.countP_nil] at this ⊢
        rw [this]
        exact congrArg some (h0.2 hq)
      | succ i =>
        have := ih i (by simpa using hi)
        simp only [List.take_succ_cons, List.countP_cons, hq, Bool.not_true, Bool.false_eq_true, if_false, Nat.add_zero]
        exact this
    | false =>
      simp only [cond_false, List.length_cons]
      cases i with
      | zero =>
        simp only [List.take_zero, List.countP_nil, List.getElem?_cons_zero]
        exact congrArg some h0.1
      | succ i =>
        have := ih i (by simpa using hi)
        simp only [List.take_succ_cons, List.countP_cons, hq, Bool.not_false, if_true, List.getElem?_cons_succ]
        exact this

variable (hq : Seq P cx call fl A pan ops.toList base 0 ops.toList recs E L S D)
include hq

theorem seq_size : recs.length = ops.size := by simpa using hq.len
theorem seq_op {i : Nat} {r : Rec} (h : recs[i]? = some r) : ops[i]? = some r.o := by simpa using (hq.step i r h).1
theorem seq_rec {i : Nat} {o : Oper} (h : ops[i]? = some o) : ∃ r, recs[i]? = some r ∧ r.o = o := by
  have hlt : i < recs.length := by rw [seq_size hq]; exact (Array.getElem?_eq_some_iff.1 h).1
  refine ⟨recs[i], List.getElem?_eq_getElem hlt, ?_⟩
  have := seq_op hq (List.getElem?_eq_getElem hlt)
  rw [h] at this
  exact (Option.some.inj this).symm
theorem seq_count : ∀ n, n ≤ recs.length → ((recs.take n).countP fun r => !quiet P fl r.o) = kI P fl ops n := by
  intro n
  induction n with
  | zero => intro _; rfl
  | succ n ih =>
    intro hn
    have hn' : n < recs.length := by omega
    rw [List.take_add_one, List.getElem?_eq_getElem hn', kI_succ, ← ih (by omega)]
    simp only [Option.toList_some, List.countP_append, List.countP_singleton]
    have := seq_op hq (List.getElem?_eq_getElem hn')
    simp [chg, this]
theorem seq_states {i : Nat} (hi : i ≤ ops.size) : (statesOf P fl recs (S ops.size))[kI P fl ops i]? = some (S i) := by
  rw [← seq_count hq i (by rw [seq_size hq]; exact hi), ← seq_size hq]
  refine states_get recs S (fun j r hr => ?_) i (by rw [seq_size hq]; exact hi)
  obtain ⟨_, _, _, h4, _, h6⟩ := hq.step j r hr
  exact ⟨h4, fun h => stepR_quiet h6 h⟩

/-- what an operation sees in a slot -/
theorem seq_look (t : Nat) : ∀ i, i ≤ ops.size → LeV (look cx (E i) (L i) t) (valF recs (fun j => decide (j < i)) 0 t (look cx (E 0) (L 0) t)) := by
  intro i
  induction i with
  | zero =>
    intro _
    have : ∀ (recs : List Rec) (i : Nat) (c : CV), valF recs (fun j => decide (j < 0)) i t c = c := by
      intro recs
      induction recs with
      | nil => intros; rfl
      | cons x xs ihx => intro i c; unfold valF; rw [ihx]; simp
    rw [this]
    exact .inr rfl
  | succ i ih =>
    intro hi
    have hlt : i < recs.length := by rw [seq_size hq]; omega
    have hr := List.getElem?_eq_getElem hlt
    obtain ⟨_, _, _, _, h5, _⟩ := hq.step i _ hr
    rw [valF_step recs i t _ _ hr]
    have hl := (put_look h5).2 t
    refine LeV.trans hl ?_
    by_cases hd : recs[i].o.dst = some t
    · rw [if_pos hd, if_pos hd]; exact .inr rfl
    · rw [if_neg hd, if_neg hd]; exact ih (by omega)

/-- a block that is made ahead: what it is -/
def ObAt (P : Program) (cx : Cx) (call : Caller) (fl : Bool) (base : Nat) (recs : List Rec) (j : Nat) (ob : Obj) : Prop :=
  ∃ r st', recs[j]? = some r ∧ (floats fl r.o = true ∧ r.wanted = true) ∧ (opF P cx r.o.op).f call r.env r.loc ⟨.nil, base + j, []⟩ = .ok r.v st' ∧ st'.heap.get (base + j) = some ob
omit hq in
theorem ObAt.same {j : Nat} {ob ob' : Obj} (h : ObAt P cx call fl base recs j ob) (k : ObAt P cx call fl base recs j ob') : ob = ob' := by
  obtain ⟨r, s, h1, _, h3, h4⟩ := h
  obtain ⟨r', s', k1, _, k3, k4⟩ := k
  rw [h1] at k1; cases k1
  rw [h3] at k3; cases k3
  rw [h4] at k4; exact Option.some.inj k4
theorem seq_ob {j : Nat} {o : Oper} (ho : ops[j]? = some o) (hf : floats fl o = true) (hlive : deadAt A j pan = false) : ∃ ob, ObAt P cx call fl base recs j ob := by
  obtain ⟨r, hr, rfl⟩ := seq_rec hq ho
  obtain ⟨_, h2, h3, _, _, h6⟩ := hq.step j r hr
  rcases h6 with ⟨_, hb, _, _, st', ob, k1, k2, _⟩ | ⟨k, _⟩ | ⟨k, _⟩ | ⟨k, _⟩
  · rw [Nat.zero_add] at k1 k2
    exact ⟨ob, r, st', hr, ⟨hf, hb⟩, by rw [h2, h3]; exact k1, k2⟩
  · rw [hf] at k; cases k
  · rw [hf] at k; cases k
  · rw [Nat.zero_add, hlive] at k; cases k

omit hq in
theorem matF_mem {p : Nat → Bool} : ∀ (pd : List (Nat × Obj)) (st stm : St) (pd1 : List (Nat × Obj)), matF base p pd st = some (stm, pd1) → pd1 = pd.filter fun x => !p x.1
  | [], st, stm, pd1, h => by cases h; rfl
  | (i, ob) :: r, st, stm, pd1, h => by
    unfold matF at h
    simp only at h
    cases hp : p i with
    | true =>
      rw [hp] at h
      obtain ⟨hh, n, d⟩ := st
      simp only at h
      split at h
      · rw [matF_mem r _ _ _ h]; simp [hp]
      · cases h
    | false =>
      rw [hp] at h
      simp only at h
      cases hm : matF base p r st with
      | none => rw [hm] at h; cases h
      | some sp =>
        rw [hm] at h
        cases h
        rw [matF_mem r _ _ _ hm]; simp [hp]

/-- which blocks wait -/
theorem seq_pend (hA : ∀ j i, Nat.testBit (A.getD j 0) i = true → i < j) (hD : D 0 = []) : ∀ i, i ≤ ops.size → ((D i).map (·.1)).Nodup ∧
    ∀ j ob, (j, ob) ∈ D i ↔ (j < i ∧ ObAt P cx call fl base recs j ob ∧ ∀ c, c < i → chg P fl ops c = true → Nat.testBit (A.getD c 0) j = false) := by
  intro i
  induction i with
  | zero => intro _; rw [hD]; simp
  | succ i ih =>
    intro hi
    obtain ⟨hn, hm⟩ := ih (by omega)
    have hlt : i < recs.length := by rw [seq_size hq]; omega
    obtain ⟨r, hr⟩ : ∃ r, recs[i]? = some r := ⟨recs[i], List.getElem?_eq_getElem hlt⟩
    obtain ⟨_, h2, h3, _, _, h6⟩ := hq.step i r hr
    have ho := seq_op hq hr
    rw [Nat.zero_add] at h6
    rcases h6 with ⟨hf, hbw, _, _, st', ob0, k1, k2, k3⟩ | ⟨hf, hrd, _, _, _, _, k3⟩ | ⟨hf, hrd, stm, k1, _⟩ | ⟨_, _, hbf, _, k3⟩
    · have hch : chg P fl ops i = false := by simp [chg, ho, quiet, hf]
      have hob : ObAt P cx call fl base recs i ob0 := ⟨r, st', hr, ⟨hf, hbw⟩, by rw [h2, h3]; exact k1, k2⟩
      rw [k3]
      refine ⟨?_, fun j ob => ?_⟩
      · rw [List.map_cons, List.nodup_cons]
        refine ⟨fun hmem => ?_, hn⟩
        obtain ⟨x, hx, hxi⟩ := List.mem_map.1 hmem
        obtain ⟨xi, xo⟩ := x
        simp only at hxi
        subst hxi
        have := ((hm _ _).1 hx).1
        omega
      · rw [List.mem_cons]
        constructor
        · rintro (h | h)
          · cases h
            refine ⟨by omega, hob, fun c hc hcg => ?_⟩
            cases hb : Nat.testBit (A.getD c 0) i with
            | false => rfl
            | true => have := hA c i hb; omega
          · obtain ⟨q1, q2, q3⟩ := (hm j ob).1 h
            refine ⟨by omega, q2, fun c hc hcg => ?_⟩
            by_cases e : c = i
            · subst e; rw [hch] at hcg; cases hcg
            · exact q3 c (by omega) hcg
        · rintro ⟨q1, q2, q3⟩
          by_cases e : j = i
          · subst e
            rw [q2.same hob]; exact .inl rfl
          · exact .inr ((hm j ob).2 ⟨by omega, q2, fun c hc hcg => q3 c (by omega) hcg⟩)
    · have hch : chg P fl ops i = false := by simp [chg, ho, quiet, hrd]
      rw [k3]
      refine ⟨hn, fun j ob => ?_⟩
      rw [hm]
      constructor
      · rintro ⟨q1, q2, q3⟩
        refine ⟨by omega, q2, fun c hc hcg => ?_⟩
        by_cases e : c = i
        · subst e; rw [hch] at hcg; cases hcg
        · exact q3 c (by omega) hcg
      · rintro ⟨q1, q2, q3⟩
        refine ⟨?_, q2, fun c hc hcg => q3 c (by omega) hcg⟩
        by_cases e : j = i
        · subst e
          obtain ⟨r', _, w1, w2, _⟩ := q2
          rw [hr] at w1; cases w1
          rw [hf] at w2; cases w2.1
        · omega
    · have hch : chg P fl ops i = true := by simp [chg, ho, quiet, hrd, hf]
      have hmem := matF_mem _ _ _ _ k1
      rw [hmem]
      refine ⟨hn.sublist (List.Sublist.map _ List.filter_sublist), fun j ob => ?_⟩
      rw [List.mem_filter, hm]
      simp only [Bool.not_eq_true']
      constructor
      · rintro ⟨⟨q1, q2, q3⟩, q4⟩
        refine ⟨by omega, q2, fun c hc hcg => ?_⟩
        by_cases e : c = i
        · subst e; exact q4
        · exact q3 c (by omega) hcg
      · rintro ⟨q1, q2, q3⟩
        refine ⟨⟨?_, q2, fun c hc hcg => q3 c (by omega) hcg⟩, q3 i (by omega) hch⟩
        by_cases e : j = i
        · subst e
          obtain ⟨r', _, w1, w2, _⟩ := q2
          rw [hr] at w1; cases w1
          rw [hf] at w2; cases w2.1
        · omega
    · have hno : ∀ {j : Nat} {ob : Obj}, ObAt P cx call fl base recs j ob → j ≠ i := fun {j ob} q e => by
        subst e
        obtain ⟨r', _, w1, w2, _⟩ := q
        rw [hr] at w1; cases w1
        rw [hbf] at w2; cases w2.2
      cases hqt : quiet P fl r.o with
      | true =>
        have hch : chg P fl ops i = false := by simp [chg, ho, hqt]
        rw [hqt] at k3
        simp only [cond_true] at k3
        rw [k3]
        refine ⟨hn, fun j ob => ?_⟩
        rw [hm]
        constructor
        · rintro ⟨q1, q2, q3⟩
          refine ⟨by omega, q2, fun c hc hcg => ?_⟩
          by_cases e : c = i
          · subst e; rw [hch] at hcg; cases hcg
          · exact q3 c (by omega) hcg
        · rintro ⟨q1, q2, q3⟩
          have := hno q2
          exact ⟨by omega, q2, fun c hc hcg => q3 c (by omega) hcg⟩
      | false =>
        have hch : chg P fl ops i = true := by simp [chg, ho, hqt]
        rw [hqt] at k3
        simp only [cond_false] at k3
        rw [k3]
        refine ⟨hn.sublist (List.Sublist.map _ List.filter_sublist), fun j ob => ?_⟩
        rw [List.mem_filter, hm]
        simp only [Bool.not_eq_true']
        constructor
        · rintro ⟨⟨q1, q2, q3⟩, q4⟩
          refine ⟨by omega, q2, fun c hc hcg => ?_⟩
          by_cases e : c = i
          · subst e; exact q4
          · exact q3 c (by omega) hcg
        · rintro ⟨q1, q2, q3⟩
          have := hno q2
          exact ⟨⟨by omega, q2, fun c hc hcg => q3 c (by omega) hcg⟩, q3 i (by omega) hch⟩
end

/-! ## What an operation looks at, alone -/
theorem ev_mask {cx : Cx} {T : Nat → Bool} {env : List CV} {loc : Loc} {x : Operand} (h : ∀ t, x = .tmp t → T t = true) : (ev cx x).f (maskE T cx.vars env) (maskL T loc) = (ev cx x).f env loc := by
  cases x with
  | tmp t =>
    show (evTmpAt t (pos cx.vars t)).f _ _ = (evTmpAt t (pos cx.vars t)).f _ _
    rw [evTmpAt_eq, evTmpAt_eq, look_mask, if_pos (h t rfl)]
  | const v => rfl
  | global g =>
    unfold ev
    simp only
    cases Nat.blt g cx.ng <;> rfl
  | func f => rfl
end Go.Proofs.YtbmbjaogcmokoaaGreatDoorX

namespace Go.Proofs.YtbmbjaogcmokoaaGreatDoorX
open Go Go.RowKit
set_option linter.unusedVariables false

section
variable {sy : Sy} {G : Nat} {B B' : Kp} {w0 : World} {P : Program} {ρ ρ' : Ren} {cx : Cx} {env : List CV} {loc : Loc} {a : Act} {st st' : St} {w w' : World} {o : Oper} {call : Caller}

/-- the model makes a block; the executor has not yet -/
theorem WRel.hold {n : Nat} {O : Go.Obj} {bi : BI} (h : WRel sy G B w ρ st w) (hn : B.no n) (hbi : bi.blk = w.heap.size) :
    WRel sy G ⟨fun k => B.blk k ∨ k = w.heap.size, fun b => B.no b ∧ b ≠ n⟩ (w.alloc O) (ρ.put n bi) st (w.alloc O) where
  below := Kept.refl _ _
  base := fun k hk => by
    rcases hk with hk | rfl
    · have := h.base k hk; simp; omega
    · simp
  ro := fun k hk => .inl (h.ro k hk)
  gone := fun b hb => by
    obtain ⟨h1, h2⟩ := h.gone b hb.1
    refine ⟨h1, ?_⟩
    unfold Ren.put
    rw [if_neg hb.2]; exact h2
  glob := fun g hg => by
    obtain ⟨i, h1, h2⟩ := h.glob g hg
    exact ⟨i, Ren.le_put (h.gone n hn).2 _ _ h1, h2⟩
  dom := fun b i hb => by
    unfold Ren.put at hb
    by_cases e : b = n
    · subst e; exact (h.gone _ hn).1
    · rw [if_neg e] at hb; exact h.dom _ _ hb
  obj := fun b o hb => by
    have hx := h.obj b o hb
    have hle := Ren.le_put (i := bi) (h.gone n hn).2
    have same : ∀ k, k < w.heap.size → (w.alloc O).heap[k]? = w.heap[k]? := fun k hk => Below.heap_alloc w O k hk
    have lt : ∀ {k : Nat} {x : Go.Obj}, w.heap[k]? = some x → k < w.heap.size := fun hk => (Array.getElem?_eq_some_iff.1 hk).1
    have ne : ∀ {k : Nat}, ¬ B.blk k → k < w.heap.size → ¬ (B.blk k ∨ k = w.heap.size) := fun h1 h2 h3 => h3.elim h1 (by omega)
    have hx2 : ORel sy ⟨fun k => B.blk k ∨ k = w.heap.size, fun b => B.no b ∧ b ≠ n⟩ ρ (w.alloc O) b o := by
      cases o with
      | row cells n es fr inf =>
        obtain ⟨i, c, e, fz, k1, k2, k3, k4, k5⟩ := hx
        exact ⟨i, c, e, fz, k1, ne k2 (lt k4), k3, by rw [same _ (lt k4)]; exact k4, k5⟩
      | ro cells n =>
        obtain ⟨i, c, e, fz, k1, k2, k4, k5⟩ := hx
        exact ⟨i, c, e, fz, k1, k2, by rw [same _ (lt k4)]; exact k4, k5⟩
      | map es clock =>
        obtain ⟨i, es', k1, k2, k4, k5⟩ := hx
        exact ⟨i, es', k1, ne k2 (lt k4), by rw [same _ (lt k4)]; exact k4, k5⟩
      | siter l n p =>
        obtain ⟨i, k1, k2, k3, k4⟩ := hx
        exact ⟨i, k1, ne k2 (lt k4), k3, by rw [same _ (lt k4)]; exact k4⟩
      | miter m since seen stepped =>
        obtain ⟨i, m', k1, k2, k3, k4, k5⟩ := hx
        exact ⟨i, m', k1, ne k2 (lt k4), k3, by rw [same _ (lt k4)]; exact k4, k5⟩
      | coll =>
        obtain ⟨i, k1, k2, k3, k4⟩ := hx
        exact ⟨i, k1, ne k2 (lt k4), k3, by rw [same _ (lt k4)]; exact k4⟩
      | dead => trivial
    exact hx2.mono hle
  inj := fun b1 b2 o1 o2 i1 i2 h1 k1 h2 k2 r1 r2 e => by
    have key : ∀ {b : Nat} {o : Obj} {i : BI}, st.heap.get b = some o → owned o = true → (ρ.put n bi) b = some i → ρ b = some i := fun {b o i} hb ho hi => by
      obtain ⟨j, q1, _⟩ := (h.obj b o hb).own ho
      have := Ren.le_put (i := bi) (h.gone n hn).2 _ _ q1
      rw [hi] at this; cases this
      exact q1
    exact h.inj b1 b2 o1 o2 i1 i2 h1 k1 h2 k2 (key h1 k1 r1) (key h2 k2 r2) e

/-- a block that the model has made ahead -/
def Held (sy : Sy) (B B' : Kp) (ρ : Ren) (w : World) (n : Nat) (ob : Obj) : Prop :=
  ∃ i O, ρ n = some i ∧ B'.blk i.blk ∧ ¬ B.blk i.blk ∧ ¬ sy.ro i.blk ∧ w.heap[i.blk]? = some O ∧ ∀ (B2 : Kp) (ρ2 : Ren) (w2 : World), ρ.le ρ2 → ¬ B2.blk i.blk → w2.heap[i.blk]? = some O → ORel sy B2 ρ2 w2 n ob
theorem Held.step {B1 : Kp} {n : Nat} {ob : Obj} (h : Held sy B B1 ρ w n ob) (hk : Kept B1 w w') (hle : ρ.le ρ') : Held sy B B1 ρ' w' n ob := by
  obtain ⟨i, O, h1, h2, h3, hr, h4, h5⟩ := h
  exact ⟨i, O, hle _ _ h1, h2, h3, hr, by rw [hk.block _ h2]; exact h4, fun B2 ρ2 w2 k1 => h5 B2 ρ2 w2 (Ren.le_trans hle k1)⟩

/-- one of them is laid into the executor's heap -/
theorem WRel.lay {h : T Obj} {nx : Nat} {d : List Dfr} {n : Nat} {ob : Obj} {i : BI} {B2 : Kp} (hw : WRel sy G B' w ρ ⟨h, nx, d⟩ w) (hg : h.get n = none) (hi : ρ n = some i) (hB : B'.blk i.blk)
    (hB2 : ∀ k, B2.blk k ↔ B'.blk k ∧ k ≠ i.blk) (hno : ∀ b, B2.no b ↔ B'.no b) (hro : ¬ sy.ro i.blk) (hob : ORel sy B2 ρ w n ob) : WRel sy G B2 w ρ ⟨T.set h ob n, nx, d⟩ w where
  below := Kept.refl _ _
  base := fun k hk => hw.base k ((hB2 k).1 hk).1
  ro := fun k hk => (hB2 k).2 ⟨hw.ro k hk, fun e => hro (e ▸ hk)⟩
  gone := fun b hb => hw.gone b ((hno b).1 hb)
  glob := hw.glob
  dom := hw.dom
  obj := fun b o hb => by
    simp only [T.get_set] at hb
    by_cases e : b = n
    · subst e; rw [if_pos rfl] at hb; cases hb; exact hob
    · rw [if_neg e] at hb
      exact ((hw.shrink (B := B2) (w0 := w) (fun k hk => ((hB2 k).1 hk).1) (fun b hb => (hno b).1 hb) (fun k hk => (hB2 k).2 ⟨hw.ro k hk, fun e => hro (e ▸ hk)⟩) (Kept.refl _ _)).obj b o hb)
  inj := fun b1 b2 o1 o2 i1 i2 h1 k1 h2 k2 r1 r2 e => by
    simp only [T.get_set] at h1 h2
    have key : ∀ {b : Nat} {o : Obj} {j : BI}, h.get b = some o → owned o = true → ρ b = some j → j.blk ≠ i.blk := fun {b o j} hb ho hj e => by
      obtain ⟨j', q1, q2, _⟩ := (hw.obj b o hb).own ho
      rw [hj] at q1; cases q1
      exact q2 (e ▸ hB)
    by_cases e1 : b1 = n
    · by_cases e2 : b2 = n
      · rw [e1, e2]
      · rw [if_neg e2] at h2
        subst e1
        rw [hi] at r1; cases r1
        exact absurd e.symm (key h2 k2 r2)
    · rw [if_neg e1] at h1
      by_cases e2 : b2 = n
      · subst e2
        rw [hi] at r2; cases r2
        exact absurd e (key h1 k1 r1)
      · rw [if_neg e2] at h2
        exact hw.inj b1 b2 o1 o2 i1 i2 h1 k1 h2 k2 r1 r2 e

/-- all that an operation asks for are -/
theorem mat_ok {base : Nat} {p : Nat → Bool} : ∀ (pd : List (Nat × Obj)) (st stm : St) (pd1 : List (Nat × Obj)) (B' : Kp), matF base p pd st = some (stm, pd1) → WRel sy G B' w ρ st w →
    (∀ k, B.blk k → B'.blk k) → (∀ b, B.no b → B'.no b) →
    (pd.map (·.1)).Nodup → (∀ j ob, (j, ob) ∈ pd → p j = true → Held sy B B' ρ w (base + j) ob) →
    (∀ j ob j' ob' i i', (j, ob) ∈ pd → (j', ob') ∈ pd → p j = true → p j' = true → ρ (base + j) = some i → ρ (base + j') = some i' → i.blk = i'.blk → j = j') →
    ∃ B2 : Kp, WRel sy G B2 w ρ stm w ∧ stm.dfs = st.dfs ∧ (∀ k, B.blk k → B2.blk k) ∧ (∀ b, B2.no b ↔ B'.no b) ∧ (∀ k, B2.blk k → B'.blk k) ∧
      ∀ k, B'.blk k → (∀ j ob i, (j, ob) ∈ pd → p j = true → ρ (base + j) = some i → i.blk ≠ k) → B2.blk k
  | [], st, stm, pd1, B', h, hw, hB, hn, _, _, _ => by
    cases h
    exact ⟨B', hw, rfl, hB, fun _ => Iff.rfl, fun _ h => h, fun _ h _ => h⟩
  | (i0, ob0) :: r, st, stm, pd1, B', h, hw, hB, hn, hnd, hh, hd => by
    rw [List.map_cons, List.nodup_cons] at hnd
    unfold matF at h
    simp only at h
    cases hp : p i0 with
    | true =>
      rw [hp] at h
      obtain ⟨hp0, n, d⟩ := st
      simp only at h
      cases hg : hp0.get (Nat.add base i0) with
      | some x => rw [hg] at h; cases h
      | none =>
        rw [hg] at h
        simp only at h
        obtain ⟨bi, O, k1, k2, k3, kr, k4, k5⟩ := hh i0 ob0 (by simp) hp
        have hw1 : WRel sy G ⟨fun k => B'.blk k ∧ k ≠ bi.blk, B'.no⟩ w ρ ⟨T.set hp0 ob0 (Nat.add base i0), n, d⟩ w :=
          hw.lay hg k1 k2 (fun k => Iff.rfl) (fun b => Iff.rfl) kr (k5 _ ρ w (Ren.le_refl _) (fun h => h.2 rfl) k4)
        have hne : ∀ j ob, (j, ob) ∈ r → p j = true → ∀ i, ρ (base + j) = some i → i.blk ≠ bi.blk := fun j ob hj hpj i hi e => by
          have := hd j ob i0 ob0 i bi (by simp [hj]) (by simp) hpj hp hi k1 e
          subst this
          exact hnd.1 (List.mem_map.2 ⟨(j, ob), hj, rfl⟩)
        obtain ⟨B2, q1, q2, q3, q4, q5, q6⟩ := mat_ok r _ _ _ ⟨fun k => B'.blk k ∧ k ≠ bi.blk, B'.no⟩ h hw1 (fun k hk => ⟨hB k hk, fun e => k3 (e ▸ hk)⟩) hn hnd.2
          (fun j ob hj hpj => by
            obtain ⟨i, O', r1, r2, r3, rr, r4, r5⟩ := hh j ob (by simp [hj]) hpj
            exact ⟨i, O', r1, ⟨r2, hne j ob hj hpj i r1⟩, r3, rr, r4, r5⟩)
          (fun j ob j' ob' i i' hj hj' => hd j ob j' ob' i i' (by simp [hj]) (by simp [hj']))
        refine ⟨B2, q1, q2, q3, q4, fun k hk => (q5 k hk).1, fun k hk hall => q6 k ⟨hk, fun e => hall i0 ob0 bi (by simp) hp k1 e.symm⟩ fun j ob i hj => hall j ob i (by simp [hj])⟩
    | false =>
      rw [hp] at h
      simp only at h
      cases hm : matF base p r st with
      | none => rw [hm] at h; cases h
      | some sp =>
        obtain ⟨s1, p1⟩ := sp
        rw [hm] at h
        cases h
        obtain ⟨B2, q1, q2, q3, q4, q5, q6⟩ := mat_ok r _ _ _ B' hm hw hB hn hnd.2 (fun j ob hj => hh j ob (by simp [hj])) (fun j ob j' ob' i i' hj hj' => hd j ob j' ob' i i' (by simp [hj]) (by simp [hj']))
        refine ⟨B2, q1, q2, q3, q4, q5, fun k hk hall => q6 k hk fun j ob i hj => hall j ob i (by simp [hj])⟩

/-! ## The operations that make a block -/
theorem orel_row {ρ2 : Ren} {B2 : Kp} {w2 : World} {cs : List CV} {vs : List Value} {arr : Array Value} {elem : TypeId} {es n : Nat} {inf : Inf} {bi : BI} (h1 : bi.sh = 0) (h2 : bi.ext = 0) (h3 : bi.es = es)
    (hv : VRels sy ρ2 cs vs) (ha : arr.toList = vs) (hinf : ∀ t, inf.ty = some t → elem = t) (hρ : ρ2 n = some bi) (hB : ¬ B2.blk bi.blk) (hh : w2.heap[bi.blk]? = some (.cells arr elem)) :
    ORel sy B2 ρ2 w2 n (.row (rowOf cs 0 .nil) cs.length es 0 inf) := by
  have hsz : arr.size = cs.length := by rw [← Array.length_toList, ha, hv.length]
  refine ⟨bi, arr, elem, (0, 0), hρ, hB, ⟨h3, hinf, fun _ => h1, fun _ => hsz, fun _ => .inl rfl⟩, hh, by rw [h1, h2, hsz]; omega, fun j v hj => ?_, fun j _ _ => by simp⟩
  rw [rowOf_get] at hj
  by_cases hlt : 0 ≤ j ∧ j < 0 + cs.length
  · rw [if_pos hlt] at hj
    obtain ⟨v', q1, q2⟩ := hv.get (j - 0) v hj
    refine ⟨by omega, v', ?_, q2⟩
    rw [h1, Nat.add_zero, ← Array.getElem?_toList, ha]
    simpa using q1
  · rw [if_neg hlt, T.get_nil] at hj; cases hj

/-- what the model does where such an operation runs -/
def MadeR (sy : Sy) (P : Program) (ρ : Ren) (a : Act) (o : Oper) (w : World) (n : Nat) (v : CV) (ob : Obj) : Prop :=
  ∃ O bi v', bi.blk = w.heap.size ∧ (execOp a.eval o).run P w = .ok (.value v') (w.alloc O) ∧ VRel sy (ρ.put n bi) v v' ∧
    ∀ (B2 : Kp) (ρ2 : Ren) (w2 : World), (ρ.put n bi).le ρ2 → ¬ B2.blk bi.blk → w2.heap[bi.blk]? = some O → ORel sy B2 ρ2 w2 n ob

theorem made_ok {n : Nat} {v : CV} {ob : Obj} (hm : makes o = true) (hop : (opF P cx o.op).f call env loc ⟨.nil, n, []⟩ = .ok v st') (hob : st'.heap.get n = some ob)
    (hs : SR sy G cx ρ env loc a) (hw : WRel sy G B' w ρ st w) (hn : ρ n = none) : MadeR sy P ρ a o w n v ob := by
  unfold makes at hm
  split at hm
  · cases hm
  · split at hm
    · rename_i t ho
      rw [ho] at hop
      simp only [opF] at hop
      unfold oAlloc at hop
      cases hz : zeroOf P t with
      | none => rw [hz] at hop; cases hop
      | some z =>
        rw [hz] at hop
        cases hsz : szOf P t with
        | none => rw [hsz] at hop; cases hop
        | some es =>
          rw [hsz] at hop
          simp only [newRow_eq] at hop
          cases hop
          rw [T.get_set, if_pos rfl] at hob
          cases hob
          obtain ⟨v, h1, h2, h3, _⟩ := run_zero (sy := sy) hz w ρ
          refine ⟨.cells v.cells t, ⟨w.heap.size, 0, 0, es⟩, .pointer (some ⟨w.heap.size, 0, none⟩), rfl, by simp [execOp, ho, Instr.alloc, h1, newVar, run_newRow], ?_, fun B2 ρ2 w2 hle hB hh => ?_⟩
          · simp only [VRel]; exact ⟨_, Ren.put_same _ _ _, by simp⟩
          · exact orel_row rfl rfl rfl ((cellsOf_rel h3 h2).mono sy (Ren.le_trans (Ren.le_put hn) hle)) rfl (fun _ h => Option.some.inj h) (hle _ _ (Ren.put_same _ _ _)) hB hh
    · rename_i t m parts ho
      rw [ho] at hop
      simp only [opF] at hop
      unfold oBuildSlice at hop
      cases he : elemOfSlice P t with
      | none => rw [he] at hop; cases hop
      | some e =>
        rw [he] at hop
        have hu := elemOfSlice_spec he
        cases hes : szOf P e with
        | none => simp only [hes] at hop; cases hop
        | some es =>
          cases hz : zeroOf P e with
          | none => simp only [hes, hz] at hop; cases hop
          | some z =>
            simp only [hes, hz] at hop
            cases hc : (Nat.ble (Nat.mul m es) 16777216 && Nat.beq (len (cellsOf z)) es) with
            | false => rw [hc] at hop; cases hop
            | true =>
              rw [hc] at hop
              simp only [Bool.and_eq_true, Nat.beq_eq, len_eq] at hc
              have hc1 : m * es ≤ 16777216 := by have := hc.1; simpa [Nat.ble_eq] using this
              obtain ⟨zv, z1, z2, z3, _⟩ := run_zero (sy := sy) hz w ρ
              simp only [cond_true] at hop
              unfold buildSliceF at hop
              simp only at hop
              have hcs := cellsOf_rel z3 z2
              have hrep := repL_rel hcs m
              rcases fill_rel hs hw parts.toList _ _ _ (len_eq _).symm hrep hop with ⟨k, hk⟩ | ⟨cs', vs', hr, h2, h3, h4⟩
              · cases hk
              · rw [newRow_eq] at hr
                cases hr
                rw [T.get_set, if_pos rfl] at hob
                cases hob
                refine ⟨.cells vs' e, ⟨w.heap.size, 0, 0, es⟩, .slice (some ⟨w.heap.size, 0, none⟩) m m, rfl, ?_, ?_, fun B2 ρ2 w2 hle hB hh => ?_⟩
                · have hzz : zv.cells.size = es := by rw [← Array.length_toList, hcs.length]; exact hc.2
                  have key : Instr.fill (fun i => some (i * es, es)) ((Array.range (m * es)).map fun j => zv.cells[j % zv.cells.size]!) (parts.map fun p => (p.1, a.eval p.2)).toList = some vs' := by
                    rw [hc.2] at h4
                    simpa using h4
                  simp only [execOp, ho, Sem.run_bind, run_buildSlice hu hes z1 hc1 key, Result.andThen, Sem.run_pure]
                · simp only [VRel]; exact ⟨_, Ren.put_same _ _ _, by simp⟩
                · exact orel_row rfl rfl rfl (h3.mono sy (Ren.le_trans (Ren.le_put hn) hle)) rfl (fun _ h => by cases h) (hle _ _ (Ren.put_same _ _ _)) hB hh
    · rename_i t r ho
      cases r with
      | some x => simp at hm
      | none =>
        rw [ho] at hop
        simp only [opF] at hop
        have hop' : newObj (.map [] 0) ⟨.nil, n, []⟩ (fun b st => RV.ok (.map b) st) = .ok v st' := hop
        rw [newObj_eq] at hop'
        cases hop'
        rw [T.get_set, if_pos rfl] at hob
        cases hob
        refine ⟨.map #[] 0, ⟨w.heap.size, 0, 0, 0⟩, .map (some w.heap.size), rfl, by simp [execOp, ho, Instr.makeMap], ?_, fun B2 ρ2 w2 hle hB hh => ?_⟩
        · simp only [VRel]; exact ⟨_, Ren.put_same _ _ _, rfl⟩
        · exact ⟨_, #[], hle _ _ (Ren.put_same _ _ _), hB, hh, by simp [EntRel]⟩
    · cases hm

/-! ## Stores without an order -/
def GetEq (s s' : St) : Prop := (∀ b, s.heap.get b = s'.heap.get b) ∧ s.next = s'.next ∧ s.dfs = s'.dfs
theorem WRel.of_get {s s' : St} (he : GetEq s s') (h : WRel sy G B w0 ρ s w) : WRel sy G B w0 ρ s' w where
  below := h.below
  base := h.base
  ro := h.ro
  gone := fun b hb => by rw [← he.2.1]; exact h.gone b hb
  glob := h.glob
  dom := fun b i hb => by rw [← he.2.1]; exact h.dom b i hb
  obj := fun b o hb => h.obj b o (by rw [he.1]; exact hb)
  inj := fun b1 b2 o1 o2 i1 i2 h1 k1 h2 => h.inj b1 b2 o1 o2 i1 i2 (by rw [he.1]; exact h1) k1 (by rw [he.1]; exact h2)

/-- a store: what it reads of the heap, what it writes -/
theorem store_spec {t : Nat} {x y : Operand} {s s1 : St} {v : CV} (h : (opF P cx (.store t x y)).f call env loc s = .ok v s1) :
    ∃ b ofs, (ev cx x).f env loc = .ptr b ofs ∧ ∃ f : Obj → Option Obj, (∀ s : St, ∀ o o', s.heap.get b = some o → f o = some o' → (opF P cx (.store t x y)).f call env loc s = .ok (.tup []) ⟨T.set s.heap o' b, s.next, s.dfs⟩) ∧
      ∃ o o', s.heap.get b = some o ∧ f o = some o' ∧ v = .tup [] ∧ s1 = ⟨T.set s.heap o' b, s.next, s.dfs⟩ := by
  simp only [opF] at h ⊢
  unfold oStore at h ⊢
  cases hn : szOf P t with
  | none => rw [hn] at h; cases h
  | some n =>
    rw [hn] at h
    simp only at h ⊢
    cases hx : (ev cx x).f env loc <;> rw [hx] at h <;> simp only at h <;> try (cases h; done)
    rename_i b ofs
    refine ⟨b, ofs, rfl, ?_⟩
    cases hl : Nat.beq (len (cellsOf ((ev cx y).f env loc))) n with
    | false => rw [hl] at h; cases h
    | true =>
      rw [hl] at h
      simp only [cond_true] at h
      generalize cellsOf ((ev cx y).f env loc) = l at h hl
      unfold storeAt at h ⊢
      refine ⟨fun o => match o with
        | .row cells m es fr inf => bif Nat.ble fr ofs && (Nat.ble (Nat.add ofs (len l)) m && l.all oneCell) then some (.row (storeL l cells ofs) m es fr inf) else none
        | _ => none, fun s o o' ho hf => ?_, ?_⟩
      · obtain ⟨hp, nx, d⟩ := s
        simp only at ho hf ⊢
        cases o <;> simp only at hf <;> try (cases hf; done)
        rename_i cells m es fr inf
        cases hb : (Nat.ble fr ofs && (Nat.ble (Nat.add ofs (len l)) m && l.all oneCell)) with
        | false => rw [hb] at hf; cases hf
        | true =>
          rw [hb] at hf
          cases hf
          simp only [ho, hb, cond_true, setObj]
      · cases ho : s.heap.get b with
        | none => rw [ho] at h; cases h
        | some o =>
          rw [ho] at h
          simp only at h
          cases o <;> simp only at h <;> try (cases h; done)
          rename_i cells m es fr inf
          cases hb : (Nat.ble fr ofs && (Nat.ble (Nat.add ofs (len l)) m && l.all oneCell)) with
          | false => rw [hb] at h; cases h
          | true =>
            rw [hb] at h
            obtain ⟨hp, nx, d⟩ := s
            simp only [cond_true, setObj] at h
            cases h
            refine ⟨_, .row (storeL l cells ofs) m es fr inf, rfl, ?_, rfl, rfl⟩
            simp only [hb, cond_true]

theorem store_comm {t1 t2 : Nat} {x1 y1 x2 y2 : Operand} {env1 env2 : List CV} {loc1 loc2 : Loc} {s0 s1 s2 alt : St} {v1 v2 v3 : CV} {b1 o1 b2 o2 : Nat} (h1 : (opF P cx (.store t1 x1 y1)).f call env1 loc1 s0 = .ok v1 s1)
    (h2 : (opF P cx (.store t2 x2 y2)).f call env2 loc2 s1 = .ok v2 s2) (h3 : (opF P cx (.store t2 x2 y2)).f call env2 loc2 s0 = .ok v3 alt)
    (e1 : (ev cx x1).f env1 loc1 = .ptr b1 o1) (e2 : (ev cx x2).f env2 loc2 = .ptr b2 o2) (hne : b1 ≠ b2) : v3 = v2 ∧ ∃ s', (opF P cx (.store t1 x1 y1)).f call env1 loc1 alt = .ok v1 s' ∧ GetEq s' s2 := by
  obtain ⟨b, _, a1, f1, p1, ob1, ob1', q1, q2, rfl, rfl⟩ := store_spec h1
  rw [e1] at a1; cases a1
  obtain ⟨b, _, a2, f2, p2, ob2, ob2', r1, r2, rfl, rfl⟩ := store_spec h2
  rw [e2] at a2; cases a2
  simp only [T.get_set] at r1
  rw [if_neg (Ne.symm hne)] at r1
  have h3' := p2 s0 _ _ r1 r2
  rw [h3] at h3'
  cases h3'
  refine ⟨rfl, _, p1 ⟨T.set s0.heap ob2' b2, s0.next, s0.dfs⟩ ob1 ob1' (by simp only [T.get_set]; rw [if_neg hne]; exact q1) q2, fun b => ?_, rfl, rfl⟩
  simp only [T.get_set]
  by_cases c1 : b = b1
  · subst c1
    rw [if_pos rfl, if_neg hne]
    simp
  · by_cases c2 : b = b2
    · subst c2; simp [c1]
    · simp [c1, c2]
end
end Go.Proofs.YtbmbjaogcmokoaaGreatDoorX
