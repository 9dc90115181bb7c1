/- Regions that draw their order (2): what stands ahead of what. -/
import Derived.Test.YtbmbjaogcmokoaaGreatDoorXDraw1
namespace Go.Proofs.YtbmbjaogcmokoaaGreatDoorX
open Go Go.RowKit
set_option linter.unusedVariables false

section
variable {ops : Array Oper}

theorem edgesOk_spec : ∀ (l : List Oper) (i : Nat), edgesOk i l = true → ∀ (j : Nat) (o : Oper), l[j]? = some o → ∀ e ∈ o.after, Region.binds .any e = true → e.on < i + j
  | [], i, _, j, o, h => by simp at h
  | x :: r, i, h, j, o, hj => by
    unfold edgesOk at h
    rw [Bool.and_eq_true] at h
    cases j with
    | zero =>
      simp at hj
      subst hj
      intro e he hb
      have := List.all_eq_true.1 h.1 e (by simpa using he)
      rw [hb] at this
      simp only [Bool.not_true, Bool.false_or] at this
      simpa [Nat.blt_eq] using this
    | succ j =>
      simp at hj
      intro e he hb
      have := edgesOk_spec r (i + 1) h.2 j o hj e he hb
      omega

theorem maskOf_bit : ∀ (acc : List Nat) (es : List Edge) (i : Nat), Nat.testBit (maskOf acc es) i = true → ∃ e ∈ es, Region.binds .any e = true ∧ (i = e.on ∨ Nat.testBit (acc.getD e.on 0) i = true)
  | acc, [], i, h => by simp [maskOf] at h
  | acc, e :: r, i, h => by
    unfold maskOf at h
    cases hb : Region.binds .any e with
    | false =>
      rw [hb] at h
      obtain ⟨e', h1, h2⟩ := maskOf_bit acc r i h
      exact ⟨e', by simp [h1], h2⟩
    | true =>
      rw [hb] at h
      simp only [cond_true] at h
      have h' : Nat.testBit (2 ^ e.on ||| (acc.getD e.on 0 ||| maskOf acc r)) i = true := h
      rw [Nat.testBit_or, Nat.testBit_or, Bool.or_eq_true, Bool.or_eq_true] at h'
      rcases h' with h1 | h1 | h1
      · rw [Nat.testBit_two_pow] at h1
        exact ⟨e, by simp, hb, .inl (by have := of_decide_eq_true h1; exact this.symm)⟩
      · exact ⟨e, by simp, hb, .inr h1⟩
      · obtain ⟨e', h1, h2⟩ := maskOf_bit acc r i h1
        exact ⟨e', by simp [h1], h2⟩

theorem ancs_prefix : ∀ (l : List Oper) (acc : List Nat), ∃ m, ancs l acc = acc ++ m ∧ m.length = l.length
  | [], acc => ⟨[], by simp [ancs], rfl⟩
  | o :: r, acc => by
    obtain ⟨m, h1, h2⟩ := ancs_prefix r (acc ++ [maskOf acc o.after.toList])
    exact ⟨maskOf acc o.after.toList :: m, by simp [ancs, h1], by simp [h2]⟩
theorem ancs_get : ∀ (l : List Oper) (acc : List Nat) (j : Nat) (o : Oper), l[j]? = some o → (ancs l acc).getD (acc.length + j) 0 = maskOf ((ancs l acc).take (acc.length + j)) o.after.toList
  | [], acc, j, o, h => by simp at h
  | x :: r, acc, 0, o, h => by
    simp at h
    subst h
    obtain ⟨m, h1, h2⟩ := ancs_prefix r (acc ++ [maskOf acc x.after.toList])
    unfold ancs
    rw [h1]
    simp [List.getD]
  | x :: r, acc, j + 1, o, h => by
    simp at h
    have := ancs_get r (acc ++ [maskOf acc x.after.toList]) j o h
    unfold ancs
    simp only [List.length_append, List.length_cons, List.length_nil] at this
    rw [show acc.length + (j + 1) = acc.length + (0 + 1) + j by omega]
    exact this

/-- what an operation waits for, directly or not -/
theorem anc_spec (hE : edgesOk 0 ops.toList = true) {j i : Nat} {o : Oper} (hj : ops[j]? = some o) (h : Nat.testBit ((ancs ops.toList []).getD j 0) i = true) :
    ∃ e ∈ o.after, Region.binds .any e = true ∧ e.on < j ∧ (i = e.on ∨ Nat.testBit ((ancs ops.toList []).getD e.on 0) i = true) := by
  have hj' : ops.toList[j]? = some o := by simpa using hj
  have h1 := ancs_get ops.toList [] j o hj'
  simp only [List.length_nil, Nat.zero_add] at h1
  rw [h1] at h
  obtain ⟨e, he, hb, hor⟩ := maskOf_bit _ _ _ h
  have he' : e ∈ o.after := by simpa using he
  have hlt := edgesOk_spec ops.toList 0 hE j o hj' e he' hb
  rw [Nat.zero_add] at hlt
  refine ⟨e, he', hb, hlt, hor.imp id fun h => ?_⟩
  have : ((ancs ops.toList []).take j).getD e.on 0 = (ancs ops.toList []).getD e.on 0 := by
    simp only [List.getD, List.getElem?_take_of_lt hlt]
  rw [← this]; exact h

/-- the listed operations bring those that they wait for -/
def DC (ops : Array Oper) (listed : Array Bool) : Prop :=
  ∀ j o, ops[j]? = some o → listed.getD j false = true → ∀ e ∈ o.after, Region.binds .any e = true → listed.getD e.on false = true

theorem anc_listed (hE : edgesOk 0 ops.toList = true) {listed : Array Bool} (hdc : DC ops listed) : ∀ (j : Nat) (o : Oper) (i : Nat), ops[j]? = some o →
    (∀ e ∈ o.after, Region.binds .any e = true → listed.getD e.on false = true) → Nat.testBit ((ancs ops.toList []).getD j 0) i = true → listed.getD i false = true := by
  intro j
  induction j using Nat.strongRecOn with
  | _ j ih =>
    intro o i hj hdeps h
    obtain ⟨e, he, hb, hlt, hor⟩ := anc_spec hE hj h
    have hl := hdeps e he hb
    rcases hor with rfl | hbit
    · exact hl
    · cases ho : ops[e.on]? with
      | none =>
        have hjlt := (Array.getElem?_eq_some_iff.1 hj).1
        rw [Array.getElem?_eq_none_iff] at ho
        omega
      | some oe => exact ih e.on hlt oe i ho (hdc e.on oe ho hl) hbit

/-- what is waited for stands ahead in the text -/
theorem anc_lt (hE : edgesOk 0 ops.toList = true) : ∀ (j i : Nat), Nat.testBit ((ancs ops.toList []).getD j 0) i = true → i < j := by
  intro j
  induction j using Nat.strongRecOn with
  | _ j ih =>
    intro i h
    cases ho : ops[j]? with
    | none =>
      exfalso
      obtain ⟨m, h1, h2⟩ := ancs_prefix ops.toList []
      rw [Array.getElem?_eq_none_iff] at ho
      have : (ancs ops.toList []).getD j 0 = 0 := by
        rw [h1]
        simp only [List.nil_append, List.getD]
        rw [List.getElem?_eq_none (by rw [h2]; simpa using ho)]
        rfl
      rw [this] at h
      simp at h
    | some o =>
      obtain ⟨e, he, hb, hlt, hor⟩ := anc_spec hE ho h
      rcases hor with rfl | hbit
      · exact hlt
      · have := ih e.on hlt i hbit
        omega

variable {P : Program} {fl : Bool} {sw : Option (Nat × Nat)}

theorem pairsOk_spec {A : List Nat} (h : pairsOk P fl sw ops A = true) {i j : Nat} {x y : Oper} (hi : ops[i]? = some x) (hj : ops[j]? = some y) (hlt : i < j) :
    Nat.testBit (A.getD j 0) i = true ∨ ((quiet P fl x = true ∨ quiet P fl y = true ∨ isSw sw i j = true) ∧ Oper.apart ops x y = true) := by
  unfold pairsOk at h
  have hjlt : j < ops.size := (Array.getElem?_eq_some_iff.1 hj).1
  have h1 := List.all_eq_true.1 (List.all_eq_true.1 h j (by simpa using hjlt)) i (by simpa using hlt)
  unfold pairOk at h1
  rw [hi, hj] at h1
  simp only [Bool.or_eq_true, Bool.and_eq_true] at h1
  exact h1
theorem isSw_spec {i j : Nat} (h : isSw sw i j = true) : sw = some (i, j) := by
  unfold isSw at h
  split at h
  · rw [Bool.and_eq_true] at h
    rw [Nat.eq_of_beq_eq_true h.1, Nat.eq_of_beq_eq_true h.2]
  · cases h

/-! ## Counting the operations that change the state -/
def chg (P : Program) (fl : Bool) (ops : Array Oper) (j : Nat) : Bool := match ops[j]? with
  | some o => !quiet P fl o
  | none => false

theorem changersAt_eq : ∀ (l : List Oper) (i : Nat), changersAt P fl i l = (List.range' i l.length).filter fun c => match l[c - i]? with | some o => !quiet P fl o | none => false
  | [], i => rfl
  | o :: r, i => by
    unfold changersAt
    rw [changersAt_eq r (i + 1)]
    simp only [List.length_cons, List.range'_succ]
    have key : (List.range' (i + 1) r.length).filter (fun c => match r[c - (i + 1)]? with | some o => !quiet P fl o | none => false) =
        (List.range' (i + 1) r.length).filter (fun c => match (o :: r)[c - i]? with | some o => !quiet P fl o | none => false) := by
      apply List.filter_congr
      intro c hc
      have : i + 1 ≤ c := (List.mem_range'_1.1 hc).1
      rw [show c - i = (c - (i + 1)) + 1 by omega, List.getElem?_cons_succ]
    rw [List.filter_cons]
    simp only [Nat.sub_self, List.getElem?_cons_zero]
    cases quiet P fl o <;> simp [key]
theorem changers_eq : changersAt P fl 0 ops.toList = (List.range ops.size).filter (chg P fl ops) := by
  rw [changersAt_eq, Array.length_toList, ← List.range_eq_range']
  apply List.filter_congr
  intro c _
  simp [chg]
theorem chg_lt {c : Nat} (h : chg P fl ops c = true) : c < ops.size := by
  unfold chg at h
  cases ho : ops[c]? with
  | none => rw [ho] at h; cases h
  | some o => exact (Array.getElem?_eq_some_iff.1 ho).1
theorem mem_changers {c : Nat} : c ∈ changersAt P fl 0 ops.toList ↔ chg P fl ops c = true := by
  rw [changers_eq, List.mem_filter]
  exact ⟨fun h => h.2, fun h => ⟨by simpa using chg_lt h, h⟩⟩
theorem filter_count (p : Nat → Bool) : ((changersAt P fl 0 ops.toList).filter p).length = (List.range ops.size).countP fun c => chg P fl ops c && p c := by
  rw [changers_eq, List.filter_filter, List.countP_eq_length_filter]
  congr 1
  apply List.filter_congr
  intro c _
  rw [Bool.and_comm]

/-- the last two changers -/
structure SwSpec (P : Program) (fl : Bool) (ops : Array Oper) (p q : Nat) : Prop where
  st1 : ∃ x, ops[p]? = some x ∧ isStore x = true
  st2 : ∃ y, ops[q]? = some y ∧ isStore y = true
  no : Nat.testBit ((ancs ops.toList []).getD q 0) p = false
  lt : p < q
  last : ∀ c, chg P fl ops c = true → c = p ∨ c = q ∨ c < p
  ear : ∀ j o, ops[j]? = some o → floats fl o = true → (Nat.testBit ((ancs ops.toList []).getD p 0) j = false ∧ Nat.testBit ((ancs ops.toList []).getD q 0) j = false) ∨
    ∃ c, chg P fl ops c = true ∧ c < p ∧ Nat.testBit ((ancs ops.toList []).getD c 0) j = true
theorem swOk_spec {p q : Nat} (h : swOk fl ops (ancs ops.toList []) (changersAt P fl 0 ops.toList) p q = true) : SwSpec P fl ops p q := by
  unfold swOk at h
  split at h
  · rename_i x y hx hy
    simp only [Bool.and_eq_true] at h
    obtain ⟨h1, h2, h3, h4, h5, h6⟩ := h
    refine ⟨⟨x, hx, h1⟩, ⟨y, hy, h2⟩, by simpa using h3, by simpa [Nat.blt_eq] using h4, fun c hc => ?_, fun j o hj hf => ?_⟩
    · have := List.all_eq_true.1 h5 c (mem_changers.2 hc)
      simp only [Bool.or_eq_true, Nat.blt_eq] at this
      exact this.imp Nat.eq_of_beq_eq_true (·.imp Nat.eq_of_beq_eq_true id)
    · unfold earlier at h6
      have := List.all_eq_true.1 h6 j (by simpa using (Array.getElem?_eq_some_iff.1 hj).1)
      rw [hj] at this
      simp only [hf, Bool.not_true, Bool.false_or, Bool.or_eq_true, Bool.and_eq_true] at this
      rcases this with h | h
      · exact .inl ⟨by simpa using h.1, by simpa using h.2⟩
      · obtain ⟨c, hc, hc2⟩ := List.any_eq_true.1 h
        rw [Bool.and_eq_true] at hc2
        exact .inr ⟨c, mem_changers.1 hc, by simpa [Nat.blt_eq] using hc2.1, hc2.2⟩
  · cases h
theorem swFor_spec {p q : Nat} (h : swFor P fl ops = some (p, q)) : SwSpec P fl ops p q := by
  unfold swFor swOf at h
  split at h
  · rename_i p' q' _
    cases hb : swOk fl ops (ancs ops.toList []) (changersAt P fl 0 ops.toList) p' q' with
    | false => rw [hb] at h; cases h
    | true => rw [hb] at h; cases h; exact swOk_spec hb
  · cases h
theorem drawStatic_spec (h : drawStatic P ops = some (fl, sw)) : drawStaticW P fl sw ops = true ∧ ∀ p q, sw = some (p, q) → SwSpec P fl ops p q := by
  unfold drawStatic at h
  cases h1 : drawStaticW P false none ops with
  | true => rw [h1] at h; cases h; exact ⟨h1, fun _ _ h => by cases h⟩
  | false =>
    rw [h1] at h
    simp only [cond_false] at h
    cases h2 : drawStaticW P true none ops with
    | true => rw [h2] at h; cases h; exact ⟨h2, fun _ _ h => by cases h⟩
    | false =>
      rw [h2] at h
      simp only [cond_false] at h
      cases h3 : drawStaticW P true (swFor P true ops) ops with
      | false => rw [h3] at h; cases h
      | true =>
        rw [h3] at h
        simp only [cond_true, Option.some.injEq, Prod.mk.injEq] at h
        obtain ⟨rfl, rfl⟩ := h
        exact ⟨h3, fun _ _ h => swFor_spec h⟩

/-- how many changers are listed -/
def kD (P : Program) (fl : Bool) (ops : Array Oper) (listed : Array Bool) : Nat := (List.range ops.size).countP fun c => chg P fl ops c && listed.getD c false
/-- how many changers stand ahead in the text -/
def kI (P : Program) (fl : Bool) (ops : Array Oper) (i : Nat) : Nat := (List.range i).countP (chg P fl ops)
theorem kI_succ (i : Nat) : kI P fl ops (i + 1) = kI P fl ops i + (if chg P fl ops i then 1 else 0) := by
  unfold kI
  rw [List.range_succ, List.countP_append, List.countP_singleton]
theorem count_lt : ∀ (n i : Nat), i ≤ n → ((List.range n).countP fun c => chg P fl ops c && decide (c < i)) = kI P fl ops i
  | 0, i, h => by
    have : i = 0 := by omega
    subst this; rfl
  | n + 1, i, h => by
    rw [List.range_succ, List.countP_append, List.countP_singleton]
    by_cases hi : i ≤ n
    · rw [count_lt n i hi]
      have : ¬ n < i := by omega
      simp [this]
    · have : i = n + 1 := by omega
      subst this
      rw [kI_succ]
      congr 1
      · unfold kI
        apply List.countP_congr
        intro c hc
        have : c < n := by simpa using hc
        have h2 : c < n + 1 := by omega
        simp [h2]
      · simp
theorem kD_of {listed : Array Bool} {i : Nat} (hi : i ≤ ops.size) (h : ∀ c, chg P fl ops c = true → (listed.getD c false = true ↔ c < i)) : kD P fl ops listed = kI P fl ops i := by
  rw [← count_lt ops.size i hi]
  unfold kD
  apply List.countP_congr
  intro c hc
  simp only [Bool.and_eq_true, decide_eq_true_eq]
  constructor
  · rintro ⟨h1, h2⟩; exact ⟨h1, (h c h1).1 h2⟩
  · rintro ⟨h1, h2⟩; exact ⟨h1, (h c h1).2 h2⟩
theorem kD_same {listed : Array Bool} {i : Nat} (h : chg P fl ops i = false) : kD P fl ops (listed.setIfInBounds i true) = kD P fl ops listed := by
  unfold kD
  apply List.countP_congr
  intro c hc
  by_cases hci : c = i
  · subst hci; simp [h]
  · rw [getD_set_ne false (Ne.symm hci)]
theorem kI_none {i n : Nat} (hin : i ≤ n) (h : ∀ c, i ≤ c → chg P fl ops c = false) : kI P fl ops n = kI P fl ops i := by
  obtain ⟨d, rfl⟩ := Nat.exists_eq_add_of_le hin
  induction d with
  | zero => rfl
  | succ d ih => rw [← Nat.add_assoc, kI_succ, ih (by omega), h (i + d) (by omega)]; simp

/-! ## The run in the text's order -/
section
variable {P : Program} {cx : Cx} {call : Caller} {all : List Oper} {fl : Bool} {A : List Nat} {base : Nat}

/-- an operation's answer: a value, or the panic that ends the region -/
def Np (pan : Option (CV × St)) (all : List Oper) (i : Nat) : Prop := pan = none ∨ i + 1 ≠ all.length
def RunsTo (pan : Option (CV × St)) (all : List Oper) (i : Nat) (stm : St) (r : RV) (v : CV) (st1 : St) : Prop := (r = .ok v st1 ∧ Np pan all i) ∨ ∃ pv ps, r = .pan pv ps ∧ v = .unk ∧ st1 = stm ∧ pan = some (pv, ps)
/-- one operation of the run in the text's order -/
def StepR (P : Program) (cx : Cx) (call : Caller) (fl : Bool) (A : List Nat) (pan : Option (CV × St)) (all : List Oper) (base i : Nat) (o : Oper) (env : List CV) (loc : Loc) (st : St) (pd : List (Nat × Obj)) (v : CV) (b : Bool) (st1 : St) (pd1 : List (Nat × Obj)) : Prop :=
  (floats fl o = true ∧ b = true ∧ st1 = st ∧ Np pan all i ∧ ∃ st' ob, (opF P cx o.op).f call env loc ⟨.nil, base + i, []⟩ = .ok v st' ∧ st'.heap.get (base + i) = some ob ∧ pd1 = (i, ob) :: pd) ∨
  (floats fl o = false ∧ reads P o.op = true ∧ Np pan all i ∧ GuardIs cx all o.guard env loc b ∧ (b = true → (opF P cx o.op).f call env loc st = .ok v st1) ∧ (b = false → v = .tup [] ∧ st1 = st) ∧ pd1 = pd) ∨
  (floats fl o = false ∧ reads P o.op = false ∧ ∃ stm, matF base (Nat.testBit (A.getD i 0)) pd st = some (stm, pd1) ∧ GuardIs cx all o.guard env loc b ∧ (b = true → RunsTo pan all i stm ((opF P cx o.op).f call env loc stm) v st1) ∧ (b = false → v = .tup [] ∧ st1 = stm ∧ Np pan all i))

structure Seq (P : Program) (cx : Cx) (call : Caller) (fl : Bool) (A : List Nat) (pan : Option (CV × St)) (all : List Oper) (base i0 : Nat) (l : List Oper) (recs : List Rec) (E : Nat → List CV) (L : Nat → Loc) (S : Nat → St) (D : Nat → List (Nat × Obj)) : Prop where
  len : recs.length = l.length
  step : ∀ j r, recs[j]? = some r → l[j]? = some r.o ∧ r.env = E j ∧ r.loc = L j ∧ r.st = S j ∧ PutIs cx r.o.dst r.v (E j) (L j) (E (j + 1)) (L (j + 1)) ∧
    StepR P cx call fl A pan all base (i0 + j) r.o (E j) (L j) (S j) (D j) r.v r.wanted (S (j + 1)) (D (j + 1))

def put0 {α : Type} (x : α) (f : Nat → α) : Nat → α
  | 0 => x
  | n + 1 => f n

theorem Seq.cons {pan : Option (CV × St)} {i0 : Nat} {o : Oper} {r : List Oper} {recs : List Rec} {E : Nat → List CV} {L : Nat → Loc} {S : Nat → St} {D : Nat → List (Nat × Obj)} {env env1 : List CV} {loc loc1 : Loc} {st st1 : St} {pd pd1 : List (Nat × Obj)} {v : CV} {b : Bool}
    (h : Seq P cx call fl A pan all base (i0 + 1) r recs E L S D) (hE : E 0 = env1) (hL : L 0 = loc1) (hS : S 0 = st1) (hD : D 0 = pd1)
    (hp : PutIs cx o.dst v env loc env1 loc1) (hs : StepR P cx call fl A pan all base i0 o env loc st pd v b st1 pd1) :
    Seq P cx call fl A pan all base i0 (o :: r) (⟨o, env, loc, st, v, b⟩ :: recs) (put0 env E) (put0 loc L) (put0 st S) (put0 pd D) where
  len := by simp [h.len]
  step := fun j x hx => by
    cases j with
    | zero =>
      simp at hx
      subst hx
      refine ⟨rfl, rfl, rfl, rfl, ?_, ?_⟩
      · show PutIs cx o.dst v env loc (E 0) (L 0)
        rw [hE, hL]; exact hp
      · show StepR P cx call fl A pan all base (i0 + 0) o env loc st pd v b (S 0) (D 0)
        rw [hS, hD]; exact hs
    | succ j =>
      obtain ⟨h1, h2, h3, h4, h5, h6⟩ := h.step j x (by simpa using hx)
      refine ⟨by simpa using h1, h2, h3, h4, h5, ?_⟩
      rw [show i0 + (j + 1) = i0 + 1 + j by omega]
      exact h6

theorem floats_guard {o : Oper} (h : floats fl o = true) : o.guard = none := by
  unfold floats at h
  rw [Bool.and_eq_true] at h
  have h2 := h.2
  unfold makes at h2
  split at h2
  · cases h2
  · assumption

theorem drawRun_seq : ∀ (l : List Oper) (i : Nat) (env : List CV) (loc : Loc) (st : St) (pd : List (Nat × Obj)) (K : List Rec → List CV → St → List (Nat × Obj) → Option (CV × St) → R) (e : Ex) (env2 : List CV) (st2 : St),
    (drawRun P cx fl A all base l i).f call env loc st pd K = .ok e env2 st2 → i + l.length = all.length →
    ∃ recs E L S D pan, (l = [] → pan = none) ∧ K recs (E l.length) (S l.length) (D l.length) pan = .ok e env2 st2 ∧ Seq P cx call fl A pan all base i l recs E L S D ∧ E 0 = env ∧ L 0 = loc ∧ S 0 = st ∧ D 0 = pd
  | [], i, env, loc, st, pd, K, e, env2, st2, h, _ => ⟨[], fun _ => env, fun _ => loc, fun _ => st, fun _ => pd, none, fun _ => rfl, h, ⟨rfl, fun j r hj => by simp at hj⟩, rfl, rfl, rfl, rfl⟩
  | o :: r, i, env, loc, st, pd, K, e, env2, st2, h, hall => by
    have next : ∀ {v : CV} {b : Bool} {env1 : List CV} {loc1 : Loc} {st1 : St} {pd1 : List (Nat × Obj)}, PutIs cx o.dst v env loc env1 loc1 → (∀ pan, Np pan all i → StepR P cx call fl A pan all base i o env loc st pd v b st1 pd1) →
        (drawRun P cx fl A all base r (Nat.succ i)).f call env1 loc1 st1 pd1 (fun recs => K (⟨o, env, loc, st, v, b⟩ :: recs)) = .ok e env2 st2 →
        ∃ recs E L S D pan, (o :: r = [] → pan = none) ∧ K recs (E (o :: r).length) (S (o :: r).length) (D (o :: r).length) pan = .ok e env2 st2 ∧ Seq P cx call fl A pan all base i (o :: r) recs E L S D ∧ E 0 = env ∧ L 0 = loc ∧ S 0 = st ∧ D 0 = pd := by
      intro v b env1 loc1 st1 pd1 hp hs h
      simp only [List.length_cons] at hall
      obtain ⟨recs, E, L, S, D, pan, h0, h1, h2, h3, h4, h5, h6⟩ := drawRun_seq r (i + 1) env1 loc1 st1 pd1 _ e env2 st2 h (by omega)
      have hnp : Np pan all i := by
        cases r with
        | nil => exact .inl (h0 rfl)
        | cons x y => simp only [List.length_cons] at hall; exact .inr (by omega)
      exact ⟨_, put0 env E, put0 loc L, put0 st S, put0 pd D, pan, (fun h => by cases h), h1, h2.cons h3 h4 h5 h6 hp (hs pan hnp), rfl, rfl, rfl, rfl⟩
    unfold drawRun at h
    cases hf : floats fl o with
    | true =>
      rw [hf] at h
      simp only [forceN_eq] at h
      cases hop : (opF P cx o.op).f call env loc ⟨.nil, Nat.add base i, []⟩ with
      | err n => rw [hop] at h; cases h
      | pan v s => rw [hop] at h; cases h
      | ok v st' =>
        rw [hop] at h
        obtain ⟨h', n', d'⟩ := st'
        simp only at h
        cases hg : h'.get (Nat.add base i) with
        | none => rw [hg] at h; cases h
        | some ob =>
          rw [hg] at h
          simp only at h
          rcases put_is (cx := cx) o.dst v env loc with ⟨env1, loc1, hp⟩ | ⟨n, hn⟩
          · rw [hp] at h
            exact next hp (fun _ hnp => .inl ⟨hf, rfl, rfl, hnp, _, ob, hop, hg, rfl⟩) h
          · rw [hn] at h; cases h
    | false =>
      rw [hf] at h
      simp only at h
      cases hr : reads P o.op with
      | true =>
        rw [hr] at h
        simp only at h
        rcases guard_is (cx := cx) (all := all) o.guard env loc with ⟨b, hb⟩ | ⟨n, hn⟩
        · rw [hb] at h
          cases b with
          | true =>
            simp only at h
            cases hop : (opF P cx o.op).f call env loc st with
            | err n => rw [hop] at h; cases h
            | pan v s => rw [hop] at h; cases h
            | ok v st' =>
              rw [hop] at h
              simp only at h
              rcases put_is (cx := cx) o.dst v env loc with ⟨env1, loc1, hp⟩ | ⟨n, hn⟩
              · rw [hp] at h
                exact next hp (fun _ hnp => .inr (.inl ⟨hf, hr, hnp, hb, fun _ => hop, (fun h => by cases h), rfl⟩)) h
              · rw [hn] at h; cases h
          | false =>
            simp only at h
            rcases put_is (cx := cx) o.dst (.tup []) env loc with ⟨env1, loc1, hp⟩ | ⟨n, hn⟩
            · rw [hp] at h
              exact next hp (fun _ hnp => .inr (.inl ⟨hf, hr, hnp, hb, (fun h => by cases h), fun _ => ⟨rfl, rfl⟩, rfl⟩)) h
            · rw [hn] at h; cases h
        · rw [hn] at h; cases h
      | false =>
        rw [hr] at h
        simp only at h
        cases hm : matF base (Nat.testBit (A.getD i 0)) pd st with
        | none => rw [hm] at h; cases h
        | some sp =>
          obtain ⟨stm, pd1⟩ := sp
          rw [hm] at h
          simp only at h
          rcases guard_is (cx := cx) (all := all) o.guard env loc with ⟨b, hb⟩ | ⟨n, hn⟩
          · rw [hb] at h
            cases b with
            | true =>
              simp only at h
              cases hop : (opF P cx o.op).f call env loc stm with
              | err n => rw [hop] at h; cases h
              | pan v s =>
                rw [hop] at h
                simp only at h
                cases r with
                | cons x y => cases h
                | nil =>
                  simp only at h
                  rcases put_is (cx := cx) o.dst .unk env loc with ⟨env1, loc1, hp⟩ | ⟨n, hn⟩
                  · rw [hp] at h
                    have h0 : Seq P cx call fl A (some (v, s)) all base (i + 1) [] [] (fun _ => env1) (fun _ => loc1) (fun _ => stm) (fun _ => pd1) := ⟨rfl, fun j r hj => by simp at hj⟩
                    exact ⟨_, put0 env (fun _ => env1), put0 loc (fun _ => loc1), put0 st (fun _ => stm), put0 pd (fun _ => pd1), some (v, s), (fun h => by cases h), h, h0.cons rfl rfl rfl rfl hp (.inr (.inr ⟨hf, hr, stm, hm, hb, fun _ => .inr ⟨v, s, hop, rfl, rfl, rfl⟩, fun h => by cases h⟩)), rfl, rfl, rfl, rfl⟩
                  · rw [hn] at h; cases h
              | ok v st' =>
                rw [hop] at h
                simp only at h
                rcases put_is (cx := cx) o.dst v env loc with ⟨env1, loc1, hp⟩ | ⟨n, hn⟩
                · rw [hp] at h
                  exact next hp (fun _ hnp => .inr (.inr ⟨hf, hr, stm, hm, hb, fun _ => .inl ⟨hop, hnp⟩, fun h => by cases h⟩)) h
                · rw [hn] at h; cases h
            | false =>
              simp only at h
              rcases put_is (cx := cx) o.dst (.tup []) env loc with ⟨env1, loc1, hp⟩ | ⟨n, hn⟩
              · rw [hp] at h
                exact next hp (fun _ hnp => .inr (.inr ⟨hf, hr, stm, hm, hb, (fun h => by cases h), fun _ => ⟨rfl, rfl, hnp⟩⟩)) h
              · rw [hn] at h; cases h
          · rw [hn] at h; cases h
end
end
end Go.Proofs.YtbmbjaogcmokoaaGreatDoorX
