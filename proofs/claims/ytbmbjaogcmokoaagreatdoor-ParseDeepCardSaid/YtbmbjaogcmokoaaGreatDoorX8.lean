/- Regions that draw their order (4): the theorem. A closed law whose run says true returns true. A function's body, in two parts: the second one is run from what is known behind the first one. -/
import Derived.Test.YtbmbjaogcmokoaaGreatDoorX7
import Derived.Test.YtbmbjaogcmokoaaGreatDoorX6
namespace Go.Proofs.YtbmbjaogcmokoaaGreatDoorX
open Go Go.RowKit
set_option linter.unusedVariables false

section
variable {sy : Sy} {G : Nat} {B : Kp} {w0 : World} {P : Program} {cx : Cx} {call : Caller} {fl : Bool} {sw : Option (Nat × Nat)} {base : Nat} {alt : St} {pan : Pn}

theorem guard_mask {ops : Array Oper} {o : Oper} {env : List CV} {loc : Loc} {b : Bool} (h : GuardIs cx ops.toList o.guard env loc b) {T : Nat → Bool} (hT : ∀ t ∈ o.looksAt ops, T t = true) :
    GuardIs cx ops.toList o.guard (maskE T cx.vars env) (maskL T loc) b := by
  intro K
  rw [← h K]
  unfold guardF
  cases hg : o.guard with
  | none => rfl
  | some jw =>
    obtain ⟨j, wt⟩ := jw
    simp only
    cases hj : ops.toList[j]? with
    | none => rfl
    | some oj =>
      simp only
      cases hd : oj.dst with
      | none => rfl
      | some d =>
        simp only
        have hj' : ops[j]? = some oj := by simpa using hj
        have hm : T d = true := hT d (by
          unfold Oper.looksAt
          rw [hg]
          simp [hj', hd])
        rw [evTmpAt_eq, evTmpAt_eq, look_mask, if_pos hm]

def Flo (fl : Bool) (ops : Array Oper) (j : Nat) : Prop := ∃ o, ops[j]? = some o ∧ floats fl o = true
def Unl (P : Program) (fl : Bool) (ops : Array Oper) (listed : Array Bool) (j : Nat) : Prop := ∀ c, chg P fl ops c = true → listed.getD c false = true → Nat.testBit ((ancs ops.toList []).getD c 0) j = false
def Swp (sw : Option (Nat × Nat)) (listed : Array Bool) : Prop := ∃ p q, sw = some (p, q) ∧ listed.getD q false = true ∧ listed.getD p false = false
def StIs (P : Program) (fl : Bool) (sw : Option (Nat × Nat)) (ops : Array Oper) (recs : List Rec) (last alt : St) (listed : Array Bool) (st : St) : Prop :=
  (¬ Swp sw listed ∧ (statesOf P fl recs last)[kD P fl ops listed]? = some st) ∨ (Swp sw listed ∧ st = alt)

/-- what waits -/
structure Pend (P : Program) (sy : Sy) (B : Kp) (cx : Cx) (call : Caller) (fl : Bool) (base : Nat) (ops : Array Oper) (recs : List Rec) (B' : Kp) (ρ : Ren) (w : World) (listed : Array Bool) : Prop where
  sub : ∀ k, B.blk k → B'.blk k
  no : ∀ b, B.no b → B'.no b
  un : ∀ j, Flo fl ops j → listed.getD j false = false → B'.no (base + j)
  held : ∀ j, Flo fl ops j → listed.getD j false = true → Unl P fl ops listed j → ∃ ob, ObAt P cx call fl base recs j ob ∧ Held sy B B' ρ w (base + j) ob
  apart : ∀ j j' i i', Flo fl ops j → Flo fl ops j' → listed.getD j false = true → listed.getD j' false = true → Unl P fl ops listed j → Unl P fl ops listed j' → ρ (base + j) = some i → ρ (base + j') = some i' → i.blk = i'.blk → j = j'

theorem Pend.step {ops : Array Oper} {recs : List Rec} {B' : Kp} {ρ ρ' : Ren} {w w' : World} {listed listed' : Array Bool} (h : Pend P sy B cx call fl base ops recs B' ρ w listed) (hk : Kept B' w w') (hle : ρ.le ρ')
    (hl : ∀ j, Flo fl ops j → listed'.getD j false = listed.getD j false) (hu : ∀ j, Unl P fl ops listed' j → Unl P fl ops listed j) : Pend P sy B cx call fl base ops recs B' ρ' w' listed' where
  sub := h.sub
  no := h.no
  un := fun j hj hn => h.un j hj (by rw [← hl j hj]; exact hn)
  held := fun j hj hn hun => by
    obtain ⟨ob, h1, h2⟩ := h.held j hj (by rw [← hl j hj]; exact hn) (hu j hun)
    exact ⟨ob, h1, h2.step hk hle⟩
  apart := fun j j' i i' hj hj' hn hn' hun hun' hi hi' => by
    have l1 := hn; have l2 := hn'
    rw [hl j hj] at l1
    rw [hl j' hj'] at l2
    obtain ⟨_, _, b1, _, q1, _⟩ := h.held j hj l1 (hu j hun)
    obtain ⟨_, _, b2, _, q2, _⟩ := h.held j' hj' l2 (hu j' hun')
    have r1 := hle _ _ q1
    have r2 := hle _ _ q2
    rw [hi] at r1; cases r1
    rw [hi'] at r2; cases r2
    exact h.apart j j' i i' hj hj' l1 l2 (hu j hun) (hu j' hun') q1 q2

structure Inv (P : Program) (sy : Sy) (G : Nat) (B : Kp) (w0 : World) (cx : Cx) (call : Caller) (fl : Bool) (sw : Option (Nat × Nat)) (pan : Pn) (base : Nat) (ops : Array Oper) (recs : List Rec) (last alt : St) (env : List CV) (loc : Loc) (ρ0 : Ren) (listed : Array Bool) (a : Act) (w : World) : Prop where
  size : listed.size = ops.size
  dc : DC ops listed
  np : ∀ x, pan = some x → listed.getD x.1 false = false
  kept : Kept B w0 w
  ex : ∃ ρ st B', ρ0.le ρ ∧ StIs P fl sw ops recs last alt listed st ∧ WRel sy G B' w ρ st w ∧ DRel sy ρ st.dfs a.defers ∧ cx.ng = G ∧ cx.nt ≤ a.tmps.size ∧
    (∀ t, VRel sy ρ (valF recs (fun j => listed.getD j false) 0 t (look cx env loc t)) (a.tmps.getD t undef)) ∧ Pend P sy B cx call fl base ops recs B' ρ w listed

theorem put_defers (a : Act) (d : Option Tmp) (v : Value) : (a.put d v).defers = a.defers := by cases d <;> rfl

theorem getD_false_lt {l : Array Bool} {j : Nat} (h : l.getD j false = true) : j < l.size := by
  rcases Nat.lt_or_ge j l.size with h' | h'
  · exact h'
  · simp [Array.getElem?_eq_none h'] at h

/-- which changers are listed, where one is at hand -/
theorem changer_cases {ops : Array Oper} {listed : Array Bool} {i : Nat} (hE : edgesOk 0 ops.toList = true) (hP : pairsOk P fl sw ops (ancs ops.toList []) = true) (hsw : ∀ p q, sw = some (p, q) → SwSpec P fl ops p q)
    (hun : listed.getD i false = false) (hch : chg P fl ops i = true)
    (hanc : ∀ c, Nat.testBit ((ancs ops.toList []).getD i 0) c = true → listed.getD c false = true)
    (hdesc : ∀ c oc, ops[c]? = some oc → listed.getD c false = true → ¬ Nat.testBit ((ancs ops.toList []).getD c 0) i = true) :
    (∀ c, chg P fl ops c = true → (listed.getD c false = true ↔ c < i)) ∨
    (∃ p, sw = some (p, i) ∧ listed.getD p false = false ∧ ∀ c, chg P fl ops c = true → (listed.getD c false = true ↔ c < p)) ∨
    (∃ q, sw = some (i, q) ∧ listed.getD q false = true ∧ ∀ c, chg P fl ops c = true → (listed.getD c false = true ↔ (c < i ∨ c = q))) := by
  have get : ∀ c, chg P fl ops c = true → ∃ o, ops[c]? = some o ∧ quiet P fl o = false := fun c hc => by
    have hlt := chg_lt hc
    refine ⟨ops[c], Array.getElem?_eq_getElem hlt, ?_⟩
    unfold chg at hc
    rw [Array.getElem?_eq_getElem hlt] at hc
    simpa using hc
  obtain ⟨oi, hoi, hqi⟩ := get i hch
  -- ordered, or the pair
  have low : ∀ c, chg P fl ops c = true → c < i → listed.getD c false = true ∨ sw = some (c, i) := fun c hc hlt => by
    obtain ⟨oc, hoc, hqc⟩ := get c hc
    rcases pairsOk_spec hP hoc hoi hlt with h | ⟨h | h | h, _⟩
    · exact .inl (hanc c h)
    · rw [hqc] at h; cases h
    · rw [hqi] at h; cases h
    · exact .inr (isSw_spec h)
  have high : ∀ c, chg P fl ops c = true → i < c → listed.getD c false = true → sw = some (i, c) := fun c hc hlt hl => by
    obtain ⟨oc, hoc, hqc⟩ := get c hc
    rcases pairsOk_spec hP hoi hoc hlt with h | ⟨h | h | h, _⟩
    · exact absurd h (hdesc c oc hoc hl)
    · rw [hqi] at h; cases h
    · rw [hqc] at h; cases h
    · exact isSw_spec h
  have notI : ∀ c, listed.getD c false = true → c ≠ i := fun c hl e => by subst e; rw [hun] at hl; cases hl
  by_cases hA : ∃ p, sw = some (p, i) ∧ listed.getD p false = false
  · obtain ⟨p, hp, hpl⟩ := hA
    obtain ⟨_, _, _, hlt, hlast, _⟩ := hsw p i hp
    refine .inr (.inl ⟨p, hp, hpl, fun c hc => ⟨fun hl => ?_, fun hcp => ?_⟩⟩)
    · rcases hlast c hc with rfl | rfl | h
      · rw [hpl] at hl; cases hl
      · exact absurd rfl (notI _ hl)
      · exact h
    · rcases low c hc (by omega) with h | h
      · exact h
      · rw [hp] at h; cases h; omega
  · by_cases hB : ∃ q, sw = some (i, q) ∧ listed.getD q false = true
    · obtain ⟨q, hq, hql⟩ := hB
      obtain ⟨_, _, _, hlt, hlast, _⟩ := hsw i q hq
      refine .inr (.inr ⟨q, hq, hql, fun c hc => ⟨fun hl => ?_, fun h => ?_⟩⟩)
      · rcases hlast c hc with rfl | rfl | h
        · exact absurd rfl (notI _ hl)
        · exact .inr rfl
        · exact .inl h
      · rcases h with h | rfl
        · rcases low c hc h with h' | h'
          · exact h'
          · rw [hq] at h'; cases h'; omega
        · exact hql
    · refine .inl fun c hc => ⟨fun hl => ?_, fun hlt => ?_⟩
      · rcases Nat.lt_or_ge c i with h | h
        · exact h
        · have hne := notI c hl
          exact absurd ⟨c, high c hc (by omega) hl, hl⟩ hB
      · rcases low c hc hlt with h | h
        · exact h
        · cases hl : listed.getD c false with
          | true => rfl
          | false => exact absurd ⟨c, h, hl⟩ hA

/-- the last two stores, the other way about -/
def AltOk (P : Program) (cx : Cx) (call : Caller) (sw : Option (Nat × Nat)) (ops : Array Oper) (recs : List Rec) (alt : St) : Prop :=
  ∀ p q, sw = some (p, q) → ∃ x y, recs[p]? = some x ∧ recs[q]? = some y ∧ x.wanted = y.wanted ∧ (x.wanted = true → ∃ b c v, addrOf cx x = some b ∧ addrOf cx y = some c ∧ b ≠ c ∧ (opF P cx y.o.op).f call y.env y.loc x.st = .ok v alt ∧
    stayAlt P cx call (ancs ops.toList []) p q alt 0 recs = true)
theorem swStay_spec {ops : Array Oper} {recs : List Rec} (h : swStay P cx call (ancs ops.toList []) sw recs = true) : ∃ alt, AltOk P cx call sw ops recs alt := by
  unfold swStay at h
  cases sw with
  | none => exact ⟨⟨.nil, 0, []⟩, fun _ _ h => by cases h⟩
  | some pq =>
    obtain ⟨p, q⟩ := pq
    simp only at h
    split at h
    · rename_i x y hx hy
      cases hxw : x.wanted with
      | true =>
        cases hyw : y.wanted with
        | true =>
          rw [hxw, hyw] at h
          simp only at h
          split at h
          · rename_i b c hb hc
            rw [Bool.and_eq_true] at h
            obtain ⟨h1, h2⟩ := h
            split at h2
            · rename_i v alt hv
              refine ⟨alt, fun p' q' e => ?_⟩
              cases e
              refine ⟨x, y, hx, hy, hxw.trans hyw.symm, fun _ => ⟨b, c, v, hb, hc, (fun e => ?_), hv, h2⟩⟩
              subst e
              rw [show Nat.beq b b = true from Nat.beq_refl b] at h1
              cases h1
            · cases h2
          · cases h
        | false => rw [hxw, hyw] at h; cases h
      | false =>
        rw [hxw] at h
        refine ⟨⟨.nil, 0, []⟩, fun p' q' e => ?_⟩
        cases e
        refine ⟨x, y, hx, hy, ?_, fun h => by rw [hxw] at h; cases h⟩
        rw [hxw]
        simpa using h.symm
    · cases h
theorem stayAlt_spec {A : List Nat} {p q : Nat} : ∀ (l : List Rec) (n j : Nat) (r : Rec), stayAlt P cx call A p q alt n l = true → l[j]? = some r → reads P r.o.op = true → r.wanted = true → Nat.testBit (A.getD q 0) (n + j) = false → Nat.testBit (A.getD (n + j) 0) p = false → sameAt P cx call r alt = true
  | [], _, _, _, _, h, _, _, _, _ => by simp at h
  | x :: xs, n, j, r, h, hj, hr, hw, h1, h2 => by
    unfold stayAlt at h
    rw [Bool.and_eq_true] at h
    cases j with
    | zero =>
      simp at hj
      subst hj
      have := h.1
      rw [hr, hw] at this
      rw [Nat.add_zero] at h1 h2
      rw [h1, h2] at this
      exact this
    | succ j =>
      exact stayAlt_spec xs (n + 1) j r h.2 (by simpa using hj) hr hw (by rw [show n + 1 + j = n + (j + 1) by omega]; exact h1) (by rw [show n + 1 + j = n + (j + 1) by omega]; exact h2)
theorem stayAll_spec {A C : List Nat} {H : List St} : ∀ (l : List Rec) (n : Nat) (j : Nat) (r : Rec), stayAll P cx call A C H n l = true → l[j]? = some r →
    (!(reads P r.o.op && r.wanted) || stay P cx call H r (loOf A C (n + j)) (hiOf A C (n + j)) (atOf C (n + j))) = true
  | [], _, _, _, _, h => by simp at h
  | x :: xs, n, j, r, h, hj => by
    unfold stayAll at h
    rw [Bool.and_eq_true] at h
    cases j with
    | zero => simp at hj; subst hj; exact h.1
    | succ j =>
      have := stayAll_spec xs (n + 1) j r h.2 (by simpa using hj)
      rw [show n + (j + 1) = n + 1 + j by omega]; exact this
theorem sameAt_spec {r : Rec} {st : St} (hr : reads P r.o.op = true) (h : sameAt P cx call r st = true) : (opF P cx r.o.op).f call r.env r.loc st = .ok r.v st := by
  unfold sameAt at h
  cases hx : (opF P cx r.o.op).f call r.env r.loc st with
  | err n => rw [hx] at h; cases h
  | pan v s => rw [hx] at h; cases h
  | ok v s =>
    rw [hx] at h
    rw [eqCV_eq _ _ h, reads_keep hr hx]

theorem matF_none {p : Nat → Bool} : ∀ (pd : List (Nat × Obj)) (st : St), (∀ x ∈ pd, p x.1 = false) → matF base p pd st = some (st, pd)
  | [], st, _ => rfl
  | (i, ob) :: r, st, h => by
    unfold matF
    have := h (i, ob) (by simp)
    simp only at this
    simp only [this, matF_none r st fun x hx => h x (by simp [hx])]

theorem store_nopan {t : Nat} {x y : Operand} {env : List CV} {loc : Loc} {stm : St} (pv : CV) (ps : St) : (opF P cx (.store t x y)).f call env loc stm ≠ .pan pv ps := by
  intro h
  simp only [opF] at h
  unfold oStore at h
  cases hn : szOf P t with
  | none => rw [hn] at h; cases h
  | some n =>
    rw [hn] at h
    simp only at h
    cases hx : (ev cx x).f env loc <;> rw [hx] at h <;> simp only at h <;> try (cases h; done)
    rename_i b ofs
    generalize cellsOf ((ev cx y).f env loc) = l at h
    cases hl : Nat.beq (len l) n with
    | false => rw [hl] at h; cases h
    | true =>
      rw [hl] at h
      simp only [cond_true] at h
      unfold storeAt at h
      split at h
      · split at h
        · rename_i cells m es fr inf _
          cases hq : (Nat.ble fr ofs && (Nat.ble (Nat.add ofs (len l)) m && l.all oneCell)) with
          | false => rw [hq] at h; cases h
          | true =>
            rw [hq] at h
            obtain ⟨hh, n2, d2⟩ := stm
            simp only [cond_true, setObj_eq] at h
            cases h
        · cases h
      · cases h
theorem store_runs {t : Nat} {x y : Operand} {env : List CV} {loc : Loc} {stm st1 : St} {v : CV} {i : Nat} (h : RunsTo pan i stm ((opF P cx (.store t x y)).f call env loc stm) v st1) : (opF P cx (.store t x y)).f call env loc stm = .ok v st1 := by
  rcases h with ⟨h, _⟩ | ⟨pv, ps, h, _⟩
  · exact h
  · exact absurd h (store_nopan _ _)
theorem isStore_spec {o : Oper} (h : isStore o = true) : o.guard = none ∧ ∃ t x y, o.op = .store t x y := by
  unfold isStore at h
  split at h
  · cases h
  · rename_i hg
    split at h
    · rename_i t x y ho; exact ⟨hg, t, x, y, ho⟩
    · cases h
theorem addrOf_spec {r : Rec} {b t : Nat} {x y : Operand} (h : addrOf cx r = some b) (ho : r.o.op = .store t x y) : ∃ ofs, (ev cx x).f r.env r.loc = .ptr b ofs := by
  unfold addrOf at h
  rw [ho] at h
  simp only at h
  split at h
  · rename_i b' ofs he; cases h; exact ⟨ofs, he⟩
  · cases h

/-- what is listed, one operation more -/
theorem inv_step {ops : Array Oper} {recs : List Rec} {E : Nat → List CV} {L : Nat → Loc} {S : Nat → St} {D : Nat → List (Nat × Obj)} {ρ0 : Ren} {listed : Array Bool} {a : Act} {w : World} {Q : Exit → Act → World → Prop} {K : Act → World → Prop} {i : Nat}
    (hall : ∀ B w0, CallerSound sy G B w0 P call) (hE : edgesOk 0 ops.toList = true) (hP : pairsOk P fl sw ops (ancs ops.toList []) = true) (hsw : ∀ p q, sw = some (p, q) → SwSpec P fl ops p q)
    (hq : Seq P cx call fl (ancs ops.toList []) pan ops.toList base 0 ops.toList recs E L S D) (hD0 : D 0 = [])
    (hstay : stayAll P cx call (ancs ops.toList []) (changersAt P fl 0 ops.toList) (statesOf P fl recs (S ops.size)) 0 recs = true) (halt : AltOk P cx call sw ops recs alt)
    (hbase : ∀ b, B.no b → b < base) (hro : ∀ k, sy.ro k → B.blk k)
    (hpan : ∀ ip pv ps ρ' v' a w', pan = some (ip, pv, ps) → ρ0.le ρ' → VRel sy ρ' pv v' → WRel sy G B w0 ρ' ps w' → DRel sy ρ' ps.dfs a.defers → cx.ng = G → cx.nt ≤ a.tmps.size →
      (∀ t, unwritten ops.toList t = true → VRel sy ρ' (look cx (E 0) (L 0) t) (a.tmps.getD t undef)) → Q (.panic [⟨v', false, false⟩]) a w')
    (hinv : Inv P sy G B w0 cx call fl sw pan base ops recs (S ops.size) alt (E 0) (L 0) ρ0 listed a w) (hi : i ∈ Region.ready .any ops listed)
    (hK : ∀ a' w', Inv P sy G B w0 cx call fl sw pan base ops recs (S ops.size) alt (E 0) (L 0) ρ0 (listed.setIfInBounds i true) a' w' → K a' w') : wpOp P ops Q i K a w := by
  obtain ⟨hun0, oi, hoi, hdeps⟩ := mem_ready.1 hi
  have hilt : i < ops.size := (Array.getElem?_eq_some_iff.1 hoi).1
  have hils : i < listed.size := by rw [hinv.size]; exact hilt
  have hun : listed.getD i false = false := by
    simp [hils] at hun0 ⊢; exact hun0
  obtain ⟨ri, hri, hro'⟩ := seq_rec hq hoi
  have recO : ∀ (j : Nat) (r : Rec), recs[j]? = some r → ops[j]? = some r.o := fun j r h => seq_op hq h
  -- ancestors are listed
  have hanc : ∀ c, Nat.testBit ((ancs ops.toList []).getD i 0) c = true → listed.getD c false = true := fun c h => anc_listed hE hinv.dc i oi c hoi hdeps h
  -- what is listed does not wait for it
  have hdesc : ∀ c oc, ops[c]? = some oc → listed.getD c false = true → ¬ Nat.testBit ((ancs ops.toList []).getD c 0) i = true := fun c oc hc hl h => by
    have := anc_listed hE hinv.dc c oc i hc (hinv.dc c oc hc hl) h
    rw [hun] at this; cases this
  -- an operation beside: no order, or the order's side
  have side : ∀ j rj, recs[j]? = some rj → j ≠ i → (Oper.apart ops oi rj.o = true ∧ Oper.apart ops rj.o oi = true) ∨ (listed.getD j false = decide (j < i)) := fun j rj hj hne => by
    have hoj := recO j rj hj
    have sym : ∀ {x y : Oper}, Oper.apart ops x y = true → Oper.apart ops y x = true := fun {x y} h => by
      obtain ⟨h1, h2, h3⟩ := Oper.apart_spec h
      unfold Oper.apart
      rw [Bool.and_eq_true]
      refine ⟨?_, ?_⟩
      · cases hy : y.dst with
        | none => rfl
        | some d =>
          have := h3 d hy
          have h2' : x.dst ≠ some d := fun e => h2 d e hy
          simp [this]
          simpa using h2'
      · cases hx : x.dst with
        | none => rfl
        | some d => have := h1 d hx; simp [this]
    rcases Nat.lt_or_ge j i with hlt | hge
    · rcases pairsOk_spec hP hoj hoi hlt with h | ⟨_, h⟩
      · exact .inr (by rw [hanc j h]; simp [hlt])
      · exact .inl ⟨sym h, h⟩
    · have hlt : i < j := by omega
      rcases pairsOk_spec hP hoi hoj hlt with h | ⟨_, h⟩
      · refine .inr ?_
        cases hl : listed.getD j false with
        | true => exact absurd h (hdesc j rj.o hoj hl)
        | false => simp; omega
      · exact .inl ⟨h, sym h⟩
  obtain ⟨ρ, stk, B', hle0, hstk, hw, hd, hng, hsz, hslot, hpend⟩ := hinv.ex
  obtain ⟨_, henv, hloc, hst, hput, hstep⟩ := hq.step i ri hri
  rw [hro'] at hput hstep
  rw [Nat.zero_add] at hstep
  -- the operation's slots
  let T : Nat → Bool := fun t => (oi.looksAt ops).contains t
  have hT : ∀ t ∈ oi.looksAt ops, T t = true := fun t ht => by simpa [T] using ht
  have hsr : SR sy G cx ρ (maskE T cx.vars (E i)) (maskL T (L i)) a := ⟨hng, hsz, fun t => by
    rw [look_mask]
    by_cases ht : T t = true
    · rw [if_pos ht]
      have htm : t ∈ oi.looksAt ops := by simpa [T] using ht
      refine LeV.rel (seq_look hq t i (by omega)) ?_
      rw [← valF_congr recs (fun j => listed.getD j false) (fun j => decide (j < i)) 0 t _ fun j rj hj hdj => ?_]
      · exact hslot t
      · rw [Nat.zero_add]
        by_cases hji : j = i
        · subst hji; rw [hun]; simp
        · rcases side j rj hj hji with ⟨_, h⟩ | h
          · obtain ⟨h1, _, _⟩ := Oper.apart_spec h
            exact absurd htm (h1 t hdj)
          · exact h
    · rw [if_neg ht]; simp [VRel]⟩
  have hev : ∀ x ∈ oi.op.operands.toList, (ev cx x).f (maskE T cx.vars (E i)) (maskL T (L i)) = (ev cx x).f (E i) (L i) := fun x hx => ev_mask fun t e => hT t (by
    subst e
    exact List.mem_append_left _ (List.mem_filterMap.2 ⟨.tmp t, hx, rfl⟩))
  -- slots behind it
  have slots : ∀ {ρ' : Ren} {v' : Value} {ds' : List Deferred}, ρ.le ρ' → VRel sy ρ' ri.v v' → cx.nt ≤ (({ a with defers := ds' } : Act).put oi.dst v').tmps.size ∧
      ∀ t, VRel sy ρ' (valF recs (fun j => (listed.setIfInBounds i true).getD j false) 0 t (look cx (E 0) (L 0) t)) ((({ a with defers := ds' } : Act).put oi.dst v').tmps.getD t undef) := by
    intro ρ' v' ds' hle hv
    refine ⟨by cases hdst : oi.dst <;> simp [Act.put] <;> exact hsz, fun t => ?_⟩
    by_cases ht : oi.dst = some t
    · have hlt : t < a.tmps.size := Nat.lt_of_lt_of_le ((put_look hput).1 t ht) hsz
      have e1 : (({ a with defers := ds' } : Act).put oi.dst v').tmps.getD t undef = v' := by
        rw [ht]
        simp only [Act.put]
        rw [getD_set _ _ _ _ _ hlt, if_pos rfl]
      rw [e1, valF_last recs _ 0 i t _ ri hri (by rw [hro']; exact ht) (by rw [Nat.zero_add]; simp [hils]) fun j rj hj hdj hlt' => ?_]
      · exact hv
      · rw [Nat.zero_add]
        have hne : j ≠ i := by omega
        rw [getD_set_ne false (Ne.symm hne)]
        rcases side j rj hj hne with ⟨h, _⟩ | h
        · obtain ⟨_, h2, _⟩ := Oper.apart_spec h
          exact absurd hdj (h2 t ht)
        · rw [h]; simp; omega
    · have e1 : (({ a with defers := ds' } : Act).put oi.dst v').tmps.getD t undef = a.tmps.getD t undef := by
        cases hdst : oi.dst with
        | none => rfl
        | some d =>
          have : d ≠ t := fun e => ht (by rw [hdst, e])
          simp [Act.put, Array.getElem?_setIfInBounds_ne this]
      rw [e1, ← valF_congr recs (fun j => listed.getD j false) _ 0 t _ fun j rj hj hdj => ?_]
      · exact (hslot t).mono sy hle
      · rw [Nat.zero_add]
        by_cases hji : j = i
        · subst hji
          rw [hri] at hj; cases hj
          rw [hro'] at hdj
          exact absurd hdj ht
        · rw [getD_set_ne false (Ne.symm hji)]
  -- what is listed then
  have hdc' : DC ops (listed.setIfInBounds i true) := fun j o hj hl e he hb => by
    by_cases hji : j = i
    · subst hji
      rw [hoi] at hj; cases hj
      exact getD_set_true (hdeps e he hb)
    · rw [getD_set_ne false (Ne.symm hji)] at hl
      exact getD_set_true (hinv.dc j o hj hl e he hb)
  have hsz' : (listed.setIfInBounds i true).size = ops.size := by simp [hinv.size]
  have hli : (listed.setIfInBounds i true).getD i false = true := by simp [hils]
  have hlj : ∀ j, j ≠ i → (listed.setIfInBounds i true).getD j false = listed.getD j false := fun j hj => getD_set_ne false (Ne.symm hj)
  have hchg : chg P fl ops i = !quiet P fl oi := by simp [chg, hoi]
  -- a store of which all that stands ahead is listed does run
  have storeLive : ∀ (q : Nat) (rq : Rec), recs[q]? = some rq → isStore rq.o = true → (∀ c, Nat.testBit ((ancs ops.toList []).getD q 0) c = true → listed.getD c false = true) → rq.wanted = true := fun q rq hrq hst hl => by
    obtain ⟨hg, t, x, y, hop⟩ := isStore_spec hst
    obtain ⟨_, _, _, _, _, hsq⟩ := hq.step q rq hrq
    rw [Nat.zero_add] at hsq
    rcases hsq with ⟨h, _⟩ | ⟨_, h, _⟩ | ⟨_, _, _, _, hg', _⟩ | ⟨hdead, _⟩
    · simp [floats, makes, hg, hop] at h
    · rw [hop] at h; cases h
    · have := hg' (fun b => if b then R.err 0 else R.err 1)
      rw [hg] at this
      cases hwp : rq.wanted with
      | true => rfl
      | false => rw [hwp] at this; simp [guardF] at this
    · cases hp : pan with
      | none => rw [hp] at hdead; cases hdead
      | some x =>
        rw [hp] at hdead
        have h1 := hl x.1 hdead
        rw [hinv.np x hp] at h1
        cases h1
  -- a quiet operation leaves the state
  have quietSt : quiet P fl oi = true → StIs P fl sw ops recs (S ops.size) alt (listed.setIfInBounds i true) stk := fun hqt => by
    have hci : chg P fl ops i = false := by rw [hchg, hqt]; rfl
    have hne : ∀ p q, sw = some (p, q) → p ≠ i ∧ q ≠ i := fun p q e => by
      obtain ⟨⟨x, hx, hx2⟩, ⟨y, hy, hy2⟩, _⟩ := hsw p q e
      have nq : ∀ o : Oper, isStore o = true → quiet P fl o = false := fun o ho => by
        obtain ⟨hg, t, x, y, hop⟩ := isStore_spec ho
        simp [quiet, reads, floats, makes, hg, hop]
      refine ⟨fun e => ?_, fun e => ?_⟩
      · subst e; rw [hoi] at hx; cases hx; rw [nq _ hx2] at hqt; cases hqt
      · subst e; rw [hoi] at hy; cases hy; rw [nq _ hy2] at hqt; cases hqt
    have hsame : Swp sw (listed.setIfInBounds i true) ↔ Swp sw listed := by
      constructor
      · rintro ⟨p, q, h1, h2, h3⟩
        obtain ⟨n1, n2⟩ := hne p q h1
        rw [hlj q n2] at h2
        rw [hlj p n1] at h3
        exact ⟨p, q, h1, h2, h3⟩
      · rintro ⟨p, q, h1, h2, h3⟩
        obtain ⟨n1, n2⟩ := hne p q h1
        exact ⟨p, q, h1, by rw [hlj q n2]; exact h2, by rw [hlj p n1]; exact h3⟩
    unfold StIs
    rw [hsame, kD_same hci]
    exact hstk
  have quietUnl : quiet P fl oi = true → ∀ j, Unl P fl ops (listed.setIfInBounds i true) j → Unl P fl ops listed j := fun hqt j hj c hc hl => by
    have hne : c ≠ i := fun e => by subst e; rw [hun] at hl; cases hl
    exact hj c hc (by rw [hlj c hne]; exact hl)
  unfold wpOp
  simp only [hoi]
  have npset : Np pan i → ∀ x, pan = some x → (listed.setIfInBounds i true).getD x.1 false = false := fun h x hx => by
    rw [hlj _ (Ne.symm (h x hx))]; exact hinv.np x hx
  rcases hstep with ⟨hf, hbw, hS1, hnp, st', ob, hop, hob, _⟩ | ⟨hf, hrd, hnp, hg, hrun, hskip, _⟩ | ⟨hf, hrd, stm, hmat, hg, hrun, hskip⟩ | ⟨hdead, _⟩
  rotate_right
  · exfalso
    cases hp : pan with
    | none => rw [hp] at hdead; cases hdead
    | some x =>
      rw [hp] at hdead
      have h1 := hanc x.1 hdead
      rw [hinv.np x hp] at h1
      cases h1
  · -- a block is made, be it ahead of its turn
    have hgn := floats_guard hf
    have hfi : Flo fl ops i := ⟨oi, hoi, hf⟩
    have hnoi := hpend.un i hfi hun
    have hmk : makes oi = true := by unfold floats at hf; rw [Bool.and_eq_true] at hf; exact hf.2
    obtain ⟨O, bi, v', hbi, hex, hv, hor⟩ := made_ok (n := base + i) hmk (by rw [op_congr oi.op hev]; exact hop) hob hsr hw (hw.gone _ hnoi).2
    have hwant : Region.wanted oi (yielded ops a.tmps) = true := by simp [Region.wanted, hgn]
    rw [hwant, if_pos rfl]
    refine .inl ?_
    unfold Oper.wp
    rw [hex]
    have hle := Ren.le_put (i := bi) (hw.gone _ hnoi).2
    have hqt : quiet P fl oi = true := quiet_floats hf
    have := slots (ds' := a.defers) hle hv
    have hw2 := hw.hold (O := O) hnoi hbi
    have hover : ¬ B'.blk w.heap.size := hw.over
    refine hK _ _ ⟨hsz', hdc', npset hnp, hinv.kept.trans ((Kept.refl B w).trans ⟨rfl, rfl, rfl, by simp, fun k hk => Below.heap_alloc w O k (hw.base k (hpend.sub k hk))⟩), ρ.put (base + i) bi, stk, _, Ren.le_trans hle0 hle, quietSt hqt, hw2, ?_, hng, this.1, this.2, ?_⟩
    · rw [put_defers]; exact hd.mono hle
    · have hold : ∀ j, Flo fl ops j → j ≠ i → (listed.setIfInBounds i true).getD j false = true → Unl P fl ops (listed.setIfInBounds i true) j → ∃ ob i' O', ObAt P cx call fl base recs j ob ∧ ρ (base + j) = some i' ∧ B'.blk i'.blk ∧ ¬ B.blk i'.blk ∧ ¬ sy.ro i'.blk ∧ w.heap[i'.blk]? = some O' ∧
          ∀ (B2 : Kp) (ρ2 : Ren) (w2 : World), ρ.le ρ2 → ¬ B2.blk i'.blk → w2.heap[i'.blk]? = some O' → ORel sy B2 ρ2 w2 (base + j) ob := fun j hj hne hl hu => by
        obtain ⟨ob, h1, i', O', h2⟩ := hpend.held j hj (by rw [← hlj j hne]; exact hl) (quietUnl hqt j hu)
        exact ⟨ob, i', O', h1, h2⟩
      exact {
        sub := fun k hk => .inl (hpend.sub k hk)
        no := fun b hb => ⟨hpend.no b hb, fun e => by have := hbase b hb; omega⟩
        un := fun j hj hl => by
          have hne : j ≠ i := fun e => by subst e; rw [hli] at hl; cases hl
          exact ⟨hpend.un j hj (by rw [← hlj j hne]; exact hl), by omega⟩
        held := fun j hj hl hu => by
          by_cases hji : j = i
          · subst hji
            refine ⟨ob, ⟨ri, st', hri, ⟨by rw [hro']; exact hf, hbw⟩, by rw [hro', henv, hloc]; exact hop, hob⟩, bi, O, Ren.put_same _ _ _, .inr hbi, fun hb => hover (by rw [← hbi]; exact hpend.sub _ hb), fun hb => hover (by rw [← hbi]; exact hw.ro _ hb), by rw [hbi]; exact alloc_heap w O, hor⟩
          · obtain ⟨ob', i', O', h1, h2, h3, h4, h5, h6, h7⟩ := hold j hj hji hl hu
            exact ⟨ob', h1, i', O', hle _ _ h2, .inl h3, h4, h5, by rw [Below.heap_alloc w O _ (Array.getElem?_eq_some_iff.1 h6).1]; exact h6, fun B2 ρ2 w2 k1 => h7 B2 ρ2 w2 (Ren.le_trans hle k1)⟩
        apart := fun j j' i1 i2 hj hj' hl hl' hu hu' h1 h2 e => by
          by_cases e1 : j = i
          · by_cases e2 : j' = i
            · rw [e1, e2]
            · obtain ⟨_, i', O', _, k2, _, _, _, k6, _⟩ := hold j' hj' e2 hl' hu'
              have := hle _ _ k2
              rw [h2] at this; cases this
              subst e1
              rw [Ren.put_same] at h1; cases h1
              have := (Array.getElem?_eq_some_iff.1 k6).1
              omega
          · obtain ⟨_, i', O', _, k2, _, _, _, k6, _⟩ := hold j hj e1 hl hu
            have q1 := hle _ _ k2
            rw [h1] at q1; cases q1
            by_cases e2 : j' = i
            · subst e2
              rw [Ren.put_same] at h2; cases h2
              have := (Array.getElem?_eq_some_iff.1 k6).1
              omega
            · obtain ⟨_, i'', O'', _, k2', _⟩ := hold j' hj' e2 hl' hu'
              have q2 := hle _ _ k2'
              rw [h2] at q2; cases q2
              exact hpend.apart j j' _ _ hj hj' (by rw [← hlj j e1]; exact hl) (by rw [← hlj j' e2]; exact hl') (quietUnl hqt j hu) (quietUnl hqt j' hu') k2 k2' e }
  · -- an operation that reads
    have hqt : quiet P fl oi = true := by simp [quiet, hrd]
    have hgm := guard_mask hg hT
    have hwant : Region.wanted oi (yielded ops a.tmps) = ri.wanted := by
      have hgr : (guardF cx ops.toList oi.guard).f (maskE T cx.vars (E i)) (maskL T (L i)) (fun b => R.ok .normal [] ⟨.nil, if b then 1 else 0, []⟩) = R.ok .normal [] ⟨.nil, if ri.wanted then 1 else 0, []⟩ := hgm _
      obtain ⟨b, hb, hk⟩ := guard_rel (e := .normal) (env2 := []) hsr rfl hgr
      rw [hb]
      cases b <;> cases hwb : ri.wanted <;> rw [hwb] at hk <;> simp at hk <;> rfl
    have hfl : ∀ j, Flo fl ops j → (listed.setIfInBounds i true).getD j false = listed.getD j false := fun j ⟨o, ho, hfo⟩ => hlj j fun e => by
      subst e; rw [hoi] at ho; cases ho; rw [hf] at hfo; cases hfo
    rw [hwant]
    cases hwb : ri.wanted with
    | false =>
      rw [if_neg (by simp)]
      have hv0 := (hskip hwb).1
      have := slots (ρ' := ρ) (v' := undef) (ds' := a.defers) (Ren.le_refl _) (by rw [hv0]; simp only [VRel]; exact ⟨[], rfl, VRels.nil⟩)
      refine hK _ _ ⟨hsz', hdc', npset hnp, hinv.kept, ρ, stk, B', hle0, quietSt hqt, hw, ?_, hng, this.1, this.2, hpend.step (Kept.refl _ _) (Ren.le_refl _) hfl (quietUnl hqt)⟩
      rw [put_defers]; exact hd
    | true =>
      rw [if_pos rfl]
      refine .inl ?_
      have hop := op_ok (o := oi) (st := stk) (hall B' w) hsr hd hw
      rw [op_congr oi.op hev] at hop
      have hans : (opF P cx oi.op).f call (E i) (L i) stk = .ok ri.v stk := by
        have conv : ∀ st, (opF P cx ri.o.op).f call ri.env ri.loc st = .ok ri.v st → (opF P cx oi.op).f call (E i) (L i) st = .ok ri.v st := fun st h => by rw [hro', henv, hloc] at h; exact h
        have hr' : reads P ri.o.op = true := by rw [hro']; exact hrd
        rcases hstk with ⟨hns, hstk⟩ | ⟨hs, rfl⟩
        · by_cases hk : kD P fl ops listed = kI P fl ops i
          · have : stk = S i := by rw [hk, seq_states hq (by omega)] at hstk; exact (Option.some.inj hstk).symm
            subst this
            have h1 := hrun hwb
            rw [h1, reads_keep hrd h1]
          · have h1 := stayAll_spec recs 0 i ri hstay hri
            rw [hr', hwb] at h1
            simp only [Bool.and_self, Bool.not_true, Bool.false_or, Nat.zero_add] at h1
            unfold stay at h1
            have hhi : kD P fl ops listed ≤ hiOf (ancs ops.toList []) (changersAt P fl 0 ops.toList) i := by
              unfold hiOf
              rw [filter_count]
              unfold kD
              apply List.countP_mono_left
              intro c hc h
              rw [Bool.and_eq_true] at h ⊢
              refine ⟨h.1, ?_⟩
              have hclt : c < ops.size := by simpa using hc
              have := hdesc c _ (Array.getElem?_eq_getElem hclt) h.2
              simpa using this
            have hlo : loOf (ancs ops.toList []) (changersAt P fl 0 ops.toList) i ≤ kD P fl ops listed := by
              unfold loOf
              rw [filter_count]
              unfold kD
              apply List.countP_mono_left
              intro c hc h
              rw [Bool.and_eq_true] at h ⊢
              exact ⟨h.1, hanc c h.2⟩
            have hat : atOf (changersAt P fl 0 ops.toList) i = kI P fl ops i := by
              unfold atOf
              rw [filter_count, ← count_lt ops.size i (by omega)]
              apply List.countP_congr
              intro c hc
              simp [Nat.blt_eq]
            have h2 := List.all_eq_true.1 h1 (kD P fl ops listed) (by simp; omega)
            rw [hat] at h2
            have n1 : Nat.blt (kD P fl ops listed) (loOf (ancs ops.toList []) (changersAt P fl 0 ops.toList) i) = false := by
              cases hb : Nat.blt (kD P fl ops listed) (loOf (ancs ops.toList []) (changersAt P fl 0 ops.toList) i) with
              | false => rfl
              | true => have : kD P fl ops listed < loOf (ancs ops.toList []) (changersAt P fl 0 ops.toList) i := by simpa [Nat.blt_eq] using hb
                        omega
            have n2 : Nat.beq (kD P fl ops listed) (kI P fl ops i) = false := by
              cases hb : Nat.beq (kD P fl ops listed) (kI P fl ops i) with
              | false => rfl
              | true => exact absurd (Nat.eq_of_beq_eq_true hb) hk
            rw [n1, n2, hstk] at h2
            simp only [Bool.false_or] at h2
            exact conv _ (sameAt_spec hr' h2)
        · obtain ⟨p, q, hpq, hql, hpl⟩ := hs
          obtain ⟨_, ⟨y, hy, hy2⟩, _⟩ := hsw p q hpq
          obtain ⟨rp, rq, _, e2, ew, hx0⟩ := halt p q hpq
          have hyo : y = rq.o := by have := recO q rq e2; rw [hy] at this; exact Option.some.inj this
          obtain ⟨_, _, _, _, _, _, _, hsa⟩ := hx0 (ew.trans (storeLive q rq e2 (by rw [← hyo]; exact hy2) fun c h => anc_listed hE hinv.dc q y c hy (hinv.dc q y hy hql) h))
          refine conv _ (sameAt_spec hr' (stayAlt_spec recs 0 i ri hsa hri hr' hwb ?_ ?_))
          · rw [Nat.zero_add]
            cases hb : Nat.testBit ((ancs ops.toList []).getD q 0) i with
            | false => rfl
            | true => exact absurd hb (hdesc q y hy hql)
          · rw [Nat.zero_add]
            cases hb : Nat.testBit ((ancs ops.toList []).getD i 0) p with
            | false => rfl
            | true => have := hanc p hb; rw [hpl] at this; cases this
      rw [hans] at hop
      refine hop _ _ fun ρ' v' w' ds' hle hv hw' hd' => ?_
      have := slots (ds' := ds') hle hv
      refine hK _ _ ⟨hsz', hdc', npset hnp, hinv.kept.trans (hw'.below.sub hpend.sub), ρ', stk, B', Ren.le_trans hle0 hle, quietSt hqt, hw'.again, ?_, hng, this.1, this.2, hpend.step hw'.below hle hfl (quietUnl hqt)⟩
      rw [put_defers]; exact hd'
  · -- an operation that changes the state
    have hch : chg P fl ops i = true := by rw [hchg]; simp [quiet, hrd, hf]
    have hgm := guard_mask hg hT
    have hwant : Region.wanted oi (yielded ops a.tmps) = ri.wanted := by
      have hgr : (guardF cx ops.toList oi.guard).f (maskE T cx.vars (E i)) (maskL T (L i)) (fun b => R.ok .normal [] ⟨.nil, if b then 1 else 0, []⟩) = R.ok .normal [] ⟨.nil, if ri.wanted then 1 else 0, []⟩ := hgm _
      obtain ⟨b, hb, hk⟩ := guard_rel (e := .normal) (env2 := []) hsr rfl hgr
      rw [hb]
      cases b <;> cases hwb : ri.wanted <;> rw [hwb] at hk <;> simp at hk <;> rfl
    have hfl : ∀ j, Flo fl ops j → (listed.setIfInBounds i true).getD j false = listed.getD j false := fun j ⟨o, ho, hfo⟩ => hlj j fun e => by
      subst e; rw [hoi] at ho; cases ho; rw [hf] at hfo; cases hfo
    -- the state that it runs in, what waits still, the state behind it
    have core : ∃ (B2 : Kp) (stn s1 s2 : St), WRel sy G B2 w ρ stn w ∧ stn.dfs = stk.dfs ∧ Pend P sy B cx call fl base ops recs B2 ρ w (listed.setIfInBounds i true) ∧
        (ri.wanted = true → RunsTo pan i stn ((opF P cx oi.op).f call (E i) (L i) stn) ri.v s1) ∧ (ri.wanted = false → s1 = stn) ∧ GetEq s1 s2 ∧ StIs P fl sw ops recs (S ops.size) alt (listed.setIfInBounds i true) s2 := by
      have grown : ∀ j, Unl P fl ops (listed.setIfInBounds i true) j → Unl P fl ops listed j ∧ Nat.testBit ((ancs ops.toList []).getD i 0) j = false := fun j hj => ⟨fun c hc hl => by
        have hne : c ≠ i := fun e => by subst e; rw [hun] at hl; cases hl
        exact hj c hc (by rw [hlj c hne]; exact hl), hj i hch hli⟩
      have refl : ∀ s, GetEq s s := fun s => ⟨fun _ => rfl, rfl, rfl⟩
      rcases changer_cases hE hP hsw hun hch hanc hdesc with hN | ⟨p, hsp, hpl, hQ⟩ | ⟨q, hsp, hql, hPp⟩
      · -- in its turn
        have hnsw : ¬ Swp sw listed := by
          rintro ⟨p, q, h1, h2, h3⟩
          obtain ⟨⟨x, hx, hx2⟩, ⟨y, hy, hy2⟩, _, hlt, hlast, _⟩ := hsw p q h1
          have hcq : chg P fl ops q = true := by
            obtain ⟨hg, t, x, y', hop⟩ := isStore_spec hy2
            simp [chg, hy, quiet, reads, floats, makes, hg, hop]
          have := (hN q hcq).1 h2
          rcases hlast i hch with rfl | rfl | h <;> omega
        have hk : kD P fl ops listed = kI P fl ops i := kD_of (by omega) hN
        have hstk' : stk = S i := by
          rcases hstk with ⟨_, h⟩ | ⟨h, _⟩
          · rw [hk, seq_states hq (by omega)] at h; exact (Option.some.inj h).symm
          · exact absurd h hnsw
        subst hstk'
        obtain ⟨hnd, hmem⟩ := seq_pend hq (anc_lt hE) hD0 i (by omega)
        have hfloD : ∀ j ob, (j, ob) ∈ D i → Nat.testBit ((ancs ops.toList []).getD i 0) j = true → Flo fl ops j ∧ listed.getD j false = true ∧ Unl P fl ops listed j ∧ ObAt P cx call fl base recs j ob := fun j ob hj hb => by
          obtain ⟨q1, q2, q3⟩ := (hmem j ob).1 hj
          have q2' := q2
          obtain ⟨r, s, r1, r2, _⟩ := q2'
          exact ⟨⟨r.o, recO j r r1, r2.1⟩, hanc j hb, (fun c hc hl => q3 c ((hN c hc).1 hl) hc), q2⟩
        obtain ⟨B2, m1, m2, m3, m4, m5, m6⟩ := mat_ok (B := B) (D i) (S i) stm _ B' hmat hw hpend.sub hpend.no hnd
          (fun j ob hj hb => by
            obtain ⟨f1, f2, f3, f4⟩ := hfloD j ob hj hb
            obtain ⟨ob', g1, g2⟩ := hpend.held j f1 f2 f3
            rw [f4.same g1]; exact g2)
          (fun j ob j' ob' i1 i2 hj hj' hb hb' h1 h2 e => by
            obtain ⟨f1, f2, f3, _⟩ := hfloD j ob hj hb
            obtain ⟨f1', f2', f3', _⟩ := hfloD j' ob' hj' hb'
            exact hpend.apart j j' i1 i2 f1 f1' f2 f2' f3 f3' h1 h2 e)
        refine ⟨B2, stm, S (i + 1), S (i + 1), m1, m2, ?_, hrun, fun h => (hskip h).2.1, refl _, ?_⟩
        · exact {
            sub := m3
            no := fun b hb => (m4 b).2 (hpend.no b hb)
            un := fun j hj hl => (m4 _).2 (hpend.un j hj (by rw [← hfl j hj]; exact hl))
            held := fun j hj hl hu => by
              obtain ⟨hu1, hu2⟩ := grown j hu
              rw [hfl j hj] at hl
              obtain ⟨ob, g1, i', O', g2, g3, g4⟩ := hpend.held j hj hl hu1
              refine ⟨ob, g1, i', O', g2, m6 _ g3 fun j2 ob2 i2 hj2 hb2 hi2 e => ?_, g4⟩
              obtain ⟨f1, f2, f3, _⟩ := hfloD j2 ob2 hj2 hb2
              have := hpend.apart j2 j i2 i' f1 hj f2 hl f3 hu1 hi2 g2 e
              subst this
              rw [hu2] at hb2; cases hb2
            apart := fun j j' i1 i2 hj hj' hl hl' hu hu' => hpend.apart j j' i1 i2 hj hj' (by rw [← hfl j hj]; exact hl) (by rw [← hfl j' hj']; exact hl') (grown j hu).1 (grown j' hu').1 }
        · refine .inl ⟨?_, ?_⟩
          · rintro ⟨p, q, h1, h2, h3⟩
            by_cases hqi : q = i
            · subst hqi
              obtain ⟨⟨x, hx, hx2⟩, _, _, hlt, _, _⟩ := hsw p q h1
              have hcp : chg P fl ops p = true := by
                obtain ⟨hg, t, x, y', hop⟩ := isStore_spec hx2
                simp [chg, hx, quiet, reads, floats, makes, hg, hop]
              have := (hN p hcp).2 hlt
              rw [hlj p (by omega), this] at h3; cases h3
            · rw [hlj q hqi] at h2
              by_cases hpi : p = i
              · subst hpi; rw [hli] at h3; cases h3
              · rw [hlj p hpi] at h3
                exact hnsw ⟨p, q, h1, h2, h3⟩
          · have : kD P fl ops (listed.setIfInBounds i true) = kI P fl ops (i + 1) := kD_of (by omega) fun c hc => by
              by_cases hci : c = i
              · subst hci; rw [hli]; simp
              · rw [hlj c hci, hN c hc]; omega
            rw [this]
            exact seq_states hq (by omega)
      · -- the last store, ahead of the one before it
        obtain ⟨⟨x, hx, hx2⟩, ⟨y, hy, hy2⟩, hno, hlt, hlast, hear⟩ := hsw p i hsp
        rw [hoi] at hy; cases hy
        obtain ⟨hgx, t1, a1, v1, hopx⟩ := isStore_spec hx2
        obtain ⟨hgy, t2, a2, v2, hopy⟩ := isStore_spec hy2
        obtain ⟨rp, rq, e1, e2, ew, hx0⟩ := halt p i hsp
        rw [hri] at e2; cases e2
        have hwp0 := ew.trans (storeLive i ri hri (by rw [hro']; exact hy2) hanc)
        obtain ⟨b, c, v3, e3, e4, e5, e6, _⟩ := hx0 hwp0
        have hnsw : ¬ Swp sw listed := by
          rintro ⟨p', q', h1, h2, h3⟩
          rw [hsp] at h1; cases h1
          rw [hun] at h2; cases h2
        have hk : kD P fl ops listed = kI P fl ops p := kD_of (by omega) hQ
        have hstk' : stk = S p := by
          rcases hstk with ⟨_, h⟩ | ⟨h, _⟩
          · rw [hk, seq_states hq (by omega)] at h; exact (Option.some.inj h).symm
          · exact absurd h hnsw
        subst hstk'
        obtain ⟨_, hmem⟩ := seq_pend hq (anc_lt hE) hD0 i (by omega)
        obtain ⟨_, hmemp⟩ := seq_pend hq (anc_lt hE) hD0 p (by omega)
        have nobit : ∀ z ∈ D i, Nat.testBit ((ancs ops.toList []).getD i 0) z.1 = false := fun z hz => by
          obtain ⟨j, ob⟩ := z
          obtain ⟨q1, q2, q3⟩ := (hmem j ob).1 hz
          obtain ⟨r, s, r1, r2, _⟩ := q2
          rcases hear j r.o (recO j r r1) r2.1 with h | ⟨c, h1, h2, h3⟩
          · exact h.2
          · rw [q3 c (by omega) h1] at h3; cases h3
        rw [matF_none _ _ nobit] at hmat
        have hstm : S i = stm := congrArg Prod.fst (Option.some.inj hmat)
        subst hstm
        have hxr := recO p rp e1
        rw [hx] at hxr
        have hxr' : x = rp.o := Option.some.inj hxr
        obtain ⟨_, henvp, hlocp, hstp, _, hstepp⟩ := hq.step p rp e1
        rw [Nat.zero_add] at hstepp
        -- the store before it, in the text
        have hrunp : (opF P cx rp.o.op).f call (E p) (L p) (S p) = .ok rp.v (S (p + 1)) := by
          rcases hstepp with ⟨h, _⟩ | ⟨_, h, _⟩ | ⟨_, _, stm', hm', hg', hr', _⟩ | ⟨_, _, hbf, _⟩
          rotate_right
          · rw [hbf] at hwp0; cases hwp0
          · rw [← hxr'] at h; simp [floats, makes, hgx, hopx] at h
          · rw [← hxr', hopx] at h; cases h
          · have nobitp : ∀ z ∈ D p, Nat.testBit ((ancs ops.toList []).getD p 0) z.1 = false := fun z hz => by
              obtain ⟨j, ob⟩ := z
              obtain ⟨q1, q2, q3⟩ := (hmemp j ob).1 hz
              obtain ⟨r, s, r1, r2, _⟩ := q2
              rcases hear j r.o (recO j r r1) r2.1 with h | ⟨c, h1, h2, h3⟩
              · exact h.1
              · rw [q3 c h2 h1] at h3; cases h3
            rw [matF_none _ _ nobitp] at hm'
            have : S p = stm' := congrArg Prod.fst (Option.some.inj hm')
            subst this
            have hwt : rp.wanted = true := by
              have := hg' (fun b => if b then R.err 0 else R.err 1)
              rw [← hxr', hgx] at this
              cases hwp : rp.wanted with
              | true => rfl
              | false => rw [hwp] at this; simp [guardF] at this
            have hq2 := hr' hwt
            rw [← hxr', hopx] at hq2 ⊢
            exact store_runs hq2
        have hSp : S (p + 1) = S i := by
          have h1 := seq_states hq (i := p + 1) (by omega)
          have h2 := seq_states hq (i := i) (by omega)
          have : kI P fl ops i = kI P fl ops (p + 1) := by
            obtain ⟨d, hd⟩ := Nat.exists_eq_add_of_le (show p + 1 ≤ i by omega)
            have key : ∀ d, p + 1 + d ≤ i → kI P fl ops (p + 1 + d) = kI P fl ops (p + 1) := by
              intro d
              induction d with
              | zero => intro _; rfl
              | succ d ih =>
                intro hle
                rw [← Nat.add_assoc, kI_succ, ih (by omega)]
                have : chg P fl ops (p + 1 + d) = false := by
                  cases hc : chg P fl ops (p + 1 + d) with
                  | false => rfl
                  | true => rcases hlast _ hc with h | h | h <;> omega
                simp [this]
            rw [hd]; exact key d (by omega)
          rw [this, h1] at h2
          exact Option.some.inj h2
        have hwt : ri.wanted = true := by
          have := hg (fun b => if b then R.err 0 else R.err 1)
          rw [hgy] at this
          cases hwp : ri.wanted with
          | true => rfl
          | false => rw [hwp] at this; simp [guardF] at this
        have hruni := hrun hwt
        rw [hro', henv, hloc, hstp] at e6
        rw [hopy] at hruni
        have npi : Np pan i := by
          rcases hruni with ⟨_, h⟩ | ⟨pv, ps, h, _⟩
          · exact h
          · exact absurd h (store_nopan _ _)
        have hruni := store_runs hruni
        obtain ⟨o1, ho1⟩ := addrOf_spec e3 (by rw [← hxr']; exact hopx)
        obtain ⟨o2, ho2⟩ := addrOf_spec e4 (by rw [hro']; exact hopy)
        rw [henvp, hlocp] at ho1
        rw [henv, hloc] at ho2
        rw [← hxr', hopx, hSp] at hrunp
        rw [hopy] at e6
        obtain ⟨hv3, _⟩ := store_comm hrunp hruni e6 ho1 ho2 e5
        refine ⟨B', S p, alt, alt, hw, rfl, ?_, (fun _ => .inl ⟨by rw [hopy, e6, hv3], npi⟩), (fun h => by rw [hwt] at h; cases h), refl _, .inr ⟨⟨p, i, hsp, hli, by rw [hlj p (by omega)]; exact hpl⟩, rfl⟩⟩
        exact hpend.step (Kept.refl _ _) (Ren.le_refl _) hfl fun j hj => (grown j hj).1
      · -- the store before it, behind the last one
        obtain ⟨⟨x, hx, hx2⟩, ⟨y, hy, hy2⟩, hno, hlt, hlast, hear⟩ := hsw i q hsp
        rw [hoi] at hx; cases hx
        obtain ⟨hgx, t1, a1, v1, hopx⟩ := isStore_spec hx2
        obtain ⟨hgy, t2, a2, v2, hopy⟩ := isStore_spec hy2
        obtain ⟨rp, rq, e1, e2, ew, hx0⟩ := halt i q hsp
        rw [hri] at e1; cases e1
        have hwi0 := storeLive i ri hri (by rw [hro']; exact hx2) hanc
        have hwq0 := ew.symm.trans hwi0
        obtain ⟨b, c, v3, e3, e4, e5, e6, _⟩ := hx0 hwi0
        have hqlt : q < ops.size := (Array.getElem?_eq_some_iff.1 hy).1
        have hsw' : Swp sw listed := ⟨i, q, hsp, hql, hun⟩
        have hstk' : stk = alt := by
          rcases hstk with ⟨h, _⟩ | ⟨_, h⟩
          · exact absurd hsw' h
          · exact h
        subst hstk'
        obtain ⟨_, hmem⟩ := seq_pend hq (anc_lt hE) hD0 i (by omega)
        obtain ⟨_, hmemq⟩ := seq_pend hq (anc_lt hE) hD0 q (by omega)
        have nobit : ∀ z ∈ D i, Nat.testBit ((ancs ops.toList []).getD i 0) z.1 = false := fun z hz => by
          obtain ⟨j, ob⟩ := z
          obtain ⟨q1, q2, q3⟩ := (hmem j ob).1 hz
          obtain ⟨r, s, r1, r2, _⟩ := q2
          rcases hear j r.o (recO j r r1) r2.1 with h | ⟨c, h1, h2, h3⟩
          · exact h.1
          · rw [q3 c h2 h1] at h3; cases h3
        rw [matF_none _ _ nobit] at hmat
        have hstm : S i = stm := congrArg Prod.fst (Option.some.inj hmat)
        subst hstm
        have hyr := recO q rq e2
        rw [hy] at hyr
        have hyr' : y = rq.o := Option.some.inj hyr
        obtain ⟨_, henvq, hlocq, hstq, _, hstepq⟩ := hq.step q rq e2
        rw [Nat.zero_add] at hstepq
        have hrunq : (opF P cx rq.o.op).f call (E q) (L q) (S q) = .ok rq.v (S (q + 1)) := by
          rcases hstepq with ⟨h, _⟩ | ⟨_, h, _⟩ | ⟨_, _, stm', hm', hg', hr', _⟩ | ⟨_, _, hbf, _⟩
          rotate_right
          · rw [hbf] at hwq0; cases hwq0
          · rw [← hyr'] at h; simp [floats, makes, hgy, hopy] at h
          · rw [← hyr', hopy] at h; cases h
          · have nobitq : ∀ z ∈ D q, Nat.testBit ((ancs ops.toList []).getD q 0) z.1 = false := fun z hz => by
              obtain ⟨j, ob⟩ := z
              obtain ⟨q1, q2, q3⟩ := (hmemq j ob).1 hz
              obtain ⟨r, s, r1, r2, _⟩ := q2
              rcases hear j r.o (recO j r r1) r2.1 with h | ⟨c, h1, h2, h3⟩
              · exact h.2
              · rw [q3 c (by omega) h1] at h3; cases h3
            rw [matF_none _ _ nobitq] at hm'
            have : S q = stm' := congrArg Prod.fst (Option.some.inj hm')
            subst this
            have hwt : rq.wanted = true := by
              have := hg' (fun b => if b then R.err 0 else R.err 1)
              rw [← hyr', hgy] at this
              cases hwp : rq.wanted with
              | true => rfl
              | false => rw [hwp] at this; simp [guardF] at this
            have hq2 := hr' hwt
            rw [← hyr', hopy] at hq2 ⊢
            exact store_runs hq2
        have hSi : S (i + 1) = S q := by
          have h1 := seq_states hq (i := i + 1) (by omega)
          have h2 := seq_states hq (i := q) (by omega)
          have : kI P fl ops q = kI P fl ops (i + 1) := by
            obtain ⟨d, hd⟩ := Nat.exists_eq_add_of_le (show i + 1 ≤ q by omega)
            have key : ∀ d, i + 1 + d ≤ q → kI P fl ops (i + 1 + d) = kI P fl ops (i + 1) := by
              intro d
              induction d with
              | zero => intro _; rfl
              | succ d ih =>
                intro hle
                rw [← Nat.add_assoc, kI_succ, ih (by omega)]
                have : chg P fl ops (i + 1 + d) = false := by
                  cases hc : chg P fl ops (i + 1 + d) with
                  | false => rfl
                  | true => rcases hlast _ hc with h | h | h <;> omega
                simp [this]
            rw [hd]; exact key d (by omega)
          rw [this, h1] at h2
          exact Option.some.inj h2
        have hkq : kI P fl ops ops.size = kI P fl ops (q + 1) := kI_none (by omega) fun c hc => by
          cases hcc : chg P fl ops c with
          | false => rfl
          | true => rcases hlast _ hcc with h | h | h <;> omega
        have hSq : S (q + 1) = S ops.size := by
          have h1 := seq_states hq (i := q + 1) (by omega)
          have h2 := seq_states hq (i := ops.size) (by omega)
          rw [hkq, h1] at h2
          exact Option.some.inj h2
        have hwt : ri.wanted = true := by
          have := hg (fun b => if b then R.err 0 else R.err 1)
          rw [hgx] at this
          cases hwp : ri.wanted with
          | true => rfl
          | false => rw [hwp] at this; simp [guardF] at this
        have hruni := hrun hwt
        rw [← hyr', henvq, hlocq, hst] at e6
        obtain ⟨o1, ho1⟩ := addrOf_spec e3 (by rw [hro']; exact hopx)
        obtain ⟨o2, ho2⟩ := addrOf_spec e4 (by rw [← hyr']; exact hopy)
        rw [henv, hloc] at ho1
        rw [henvq, hlocq] at ho2
        rw [← hyr', hopy, hSq] at hrunq
        rw [hopy] at e6
        rw [hopx] at hruni
        have npi : Np pan i := by
          rcases hruni with ⟨_, h⟩ | ⟨pv, ps, h, _⟩
          · exact h
          · exact absurd h (store_nopan _ _)
        have hruni := store_runs hruni
        rw [hSi] at hruni
        obtain ⟨_, s', hs', hge⟩ := store_comm hruni hrunq e6 ho1 ho2 e5
        refine ⟨B', stk, s', S ops.size, hw, rfl, ?_, (fun _ => .inl ⟨by rw [hopx]; exact hs', npi⟩), (fun h => by rw [hwt] at h; cases h), hge, .inl ⟨?_, ?_⟩⟩
        · exact hpend.step (Kept.refl _ _) (Ren.le_refl _) hfl fun j hj => (grown j hj).1
        · rintro ⟨p', q', h1, h2, h3⟩
          rw [hsp] at h1; cases h1
          rw [hli] at h3; cases h3
        · have : kD P fl ops (listed.setIfInBounds i true) = kI P fl ops ops.size := kD_of (Nat.le_refl _) fun c hc => by
            have hclt := chg_lt hc
            by_cases hci : c = i
            · subst hci; rw [hli]; simp [hclt]
            · rw [hlj c hci, hPp c hc]
              rcases hlast c hc with h | h | h <;> simp [h, hclt] <;> omega
          rw [this]
          exact seq_states hq (Nat.le_refl _)
    obtain ⟨B2, stn, s1, s2, hw2, hdf, hpend', hrun', hskip', hge, hst2⟩ := core
    rw [hwant]
    cases hwb : ri.wanted with
    | false =>
      rw [if_neg (by simp)]
      have hv0 := (hskip hwb).1
      have := slots (ρ' := ρ) (v' := undef) (ds' := a.defers) (Ren.le_refl _) (by rw [hv0]; simp only [VRel]; exact ⟨[], rfl, VRels.nil⟩)
      have e1 := hskip' hwb
      subst e1
      refine hK _ _ ⟨hsz', hdc', npset (hskip hwb).2.2, hinv.kept, ρ, s2, B2, hle0, hst2, hw2.of_get hge, ?_, hng, this.1, this.2, hpend'⟩
      rw [put_defers, ← hge.2.2, hdf]; exact hd
    | true =>
      rw [if_pos rfl]
      refine .inl ?_
      have hop := op_ok (o := oi) (st := stn) (hall B2 w) hsr (by rw [hdf]; exact hd) hw2
      rw [op_congr oi.op hev] at hop
      rcases hrun' hwb with ⟨hx, hnp⟩ | ⟨pv, ps, hx, _, _, hpp⟩
      rotate_left
      · rw [hx] at hop
        refine hop _ _ fun ρ' v' w' hle hv hw' hd' => ?_
        refine hpan i pv ps ρ' v' a w' hpp (Ren.le_trans hle0 hle) hv (hw'.shrink hpend'.sub hpend'.no hro (hinv.kept.trans (hw'.below.sub hpend'.sub))) hd' hng hsz fun t ht => ?_
        have hsl := hslot t
        rw [valF_none recs _ 0 t _ fun j r hj => unwritten_spec _ t ht r.o (by
          have := recO j r hj
          have h2 : r.o ∈ ops := Array.mem_of_getElem? this
          simpa using h2)] at hsl
        exact hsl.mono sy hle
      rw [hx] at hop
      refine hop _ _ fun ρ' v' w' ds' hle hv hw' hd' => ?_
      have := slots (ds' := ds') hle hv
      refine hK _ _ ⟨hsz', hdc', npset hnp, hinv.kept.trans (hw'.below.sub hpend'.sub), ρ', s2, B2, Ren.le_trans hle0 hle, hst2, (hw'.of_get hge).again, ?_, hng, this.1, this.2, hpend'.step hw'.below hle (fun _ _ => rfl) (fun _ h => h)⟩
      rw [put_defers, ← hge.2.2]; exact hd'

/-- every order -/
theorem inv_any {ops : Array Oper} {recs : List Rec} {E : Nat → List CV} {L : Nat → Loc} {S : Nat → St} {D : Nat → List (Nat × Obj)} {ρ0 : Ren} {Q : Exit → Act → World → Prop}
    (hall : ∀ B w0, CallerSound sy G B w0 P call) (hE : edgesOk 0 ops.toList = true) (hP : pairsOk P fl sw ops (ancs ops.toList []) = true) (hsw : ∀ p q, sw = some (p, q) → SwSpec P fl ops p q)
    (hq : Seq P cx call fl (ancs ops.toList []) pan ops.toList base 0 ops.toList recs E L S D) (hD0 : D 0 = [])
    (hstay : stayAll P cx call (ancs ops.toList []) (changersAt P fl 0 ops.toList) (statesOf P fl recs (S ops.size)) 0 recs = true) (halt : AltOk P cx call sw ops recs alt)
    (hbase : ∀ b, B.no b → b < base) (hro : ∀ k, sy.ro k → B.blk k)
    (hpan : ∀ ip pv ps ρ' v' a w', pan = some (ip, pv, ps) → ρ0.le ρ' → VRel sy ρ' pv v' → WRel sy G B w0 ρ' ps w' → DRel sy ρ' ps.dfs a.defers → cx.ng = G → cx.nt ≤ a.tmps.size →
      (∀ t, unwritten ops.toList t = true → VRel sy ρ' (look cx (E 0) (L 0) t) (a.tmps.getD t undef)) → Q (.panic [⟨v', false, false⟩]) a w')
    (hQ : ∀ listed a w, Inv P sy G B w0 cx call fl sw pan base ops recs (S ops.size) alt (E 0) (L 0) ρ0 listed a w → (∀ j, j < ops.size → listed.getD j false = true) → Q .normal a w) :
    ∀ (fuel : Nat) (listed : Array Bool) (a : Act) (w : World), Inv P sy G B w0 cx call fl sw pan base ops recs (S ops.size) alt (E 0) (L 0) ρ0 listed a w → ((List.range ops.size).countP fun j => !listed.getD j false) ≤ fuel → wpAny P .any ops Q fuel listed a w := by
  -- nothing is ready: all are listed
  have full : ∀ (listed : Array Bool) (a : Act) (w : World), Inv P sy G B w0 cx call fl sw pan base ops recs (S ops.size) alt (E 0) (L 0) ρ0 listed a w → Region.ready .any ops listed = [] → ∀ j, j < ops.size → listed.getD j false = true := by
    intro listed a w hinv hr j
    induction j using Nat.strongRecOn with
    | _ j ih =>
      intro hj
      cases hl : listed.getD j false with
      | true => rfl
      | false =>
        exfalso
        have hls : j < listed.size := by rw [hinv.size]; exact hj
        have : j ∈ Region.ready .any ops listed := mem_ready.2 ⟨by simp [hls] at hl ⊢; exact hl, ops[j], Array.getElem?_eq_getElem hj, fun e he hb => by
          have hlt := edgesOk_spec ops.toList 0 hE j ops[j] (by simp [hj]) e he hb
          rw [Nat.zero_add] at hlt
          exact ih e.on hlt (by omega)⟩
        rw [hr] at this
        cases this
  intro fuel
  induction fuel with
  | zero =>
    intro listed a w hinv hc
    have hall : ∀ j, j < ops.size → listed.getD j false = true := fun j hj => by
      cases hl : listed.getD j false with
      | true => rfl
      | false =>
        have : 0 < (List.range ops.size).countP fun j => !listed.getD j false := List.countP_pos_iff.2 ⟨j, by simpa using hj, by simp [hl]⟩
        omega
    refine ⟨?_, hQ listed a w hinv hall⟩
    cases hr : Region.ready .any ops listed with
    | nil => rfl
    | cons x xs =>
      exfalso
      have hx : x ∈ Region.ready .any ops listed := by rw [hr]; simp
      obtain ⟨h0, o, ho, _⟩ := mem_ready.1 hx
      have hlt := (Array.getElem?_eq_some_iff.1 ho).1
      have := hall x hlt
      have hls : x < listed.size := by rw [hinv.size]; exact hlt
      simp [hls] at h0 this
      rw [h0] at this; cases this
  | succ fuel ih =>
    intro listed a w hinv hc
    refine ⟨fun hr => hQ listed a w hinv (full listed a w hinv hr), fun i hi => ?_⟩
    refine inv_step hall hE hP hsw hq hD0 hstay halt hbase hro hpan hinv hi fun a' w' hinv' => ih _ a' w' hinv' ?_
    obtain ⟨h0, o, ho, _⟩ := mem_ready.1 hi
    have hlt := (Array.getElem?_eq_some_iff.1 ho).1
    have hls : i < listed.size := by rw [hinv.size]; exact hlt
    have hun : listed.getD i false = false := by simp [hls] at h0 ⊢; exact h0
    have : ((List.range ops.size).countP fun j => !(listed.setIfInBounds i true).getD j false) + 1 ≤ (List.range ops.size).countP fun j => !listed.getD j false := by
      have hmem : i ∈ List.range ops.size := by simpa using hlt
      obtain ⟨l1, l2, hl⟩ := List.append_of_mem hmem
      have hnd : (List.range ops.size).Nodup := List.nodup_range
      rw [hl] at hnd
      have hn1 : i ∉ l1 := fun h => by
        have := List.nodup_append.1 hnd
        exact this.2.2 i h i (by simp) rfl
      have hn2 : i ∉ l2 := fun h => by
        have := (List.nodup_append.1 hnd).2.1
        exact (List.nodup_cons.1 this).1 h
      rw [hl]
      simp only [List.countP_append, List.countP_cons]
      have e1 : l1.countP (fun j => !(listed.setIfInBounds i true).getD j false) = l1.countP fun j => !listed.getD j false := by
        apply List.countP_congr
        intro j hj
        rw [getD_set_ne false fun e => hn1 (by rw [e]; exact hj)]
      have e2 : l2.countP (fun j => !(listed.setIfInBounds i true).getD j false) = l2.countP fun j => !listed.getD j false := by
        apply List.countP_congr
        intro j hj
        rw [getD_set_ne false fun e => hn2 (by rw [e]; exact hj)]
      rw [e1, e2]
      have s1 : (listed.setIfInBounds i true).getD i false = true := by simp [hls]
      simp [s1, hun]
      omega
    omega

theorem draw_ok (hm : P.follows .mixedOrders = true) : DrawOk sy G B w0 P := by
  intro cx call hall id ops env st e env2 st2 ρ a w hr hs hd hw
  have hr' : (drawF P cx ops).f call env st = .ok e env2 st2 := hr
  unfold drawF at hr'
  cases hst : drawStatic P ops with
  | none => rw [hst] at hr'; cases hr'
  | some q =>
    obtain ⟨fl, sw⟩ := q
    rw [hst] at hr'
    obtain ⟨hstW, hsw⟩ := drawStatic_spec hst
    obtain ⟨h0, base, d0⟩ := st
    simp only [drawG, forceN_eq] at hr'
    generalize hnx : (bif fl then Nat.add base ops.size else base) = nx at hr'
    obtain ⟨recs, E, L, S, D, pan, hpn, h1, hq, hE0, hL0, hS0, hD0⟩ := drawRun_seq _ _ _ _ _ _ _ _ _ _ _ hr' (fun x hx => by cases hx)
    rw [Array.length_toList] at h1
    cases hck : stayAll P cx call (ancs ops.toList []) (changersAt P fl 0 ops.toList) (statesOf P fl recs (S ops.size)) 0 recs && swStay P cx call (ancs ops.toList []) sw recs with
    | false => rw [hck] at h1; cases h1
    | true =>
      rw [hck] at h1
      simp only [cond_true] at h1
      · rw [Bool.and_eq_true] at hck
        obtain ⟨hstay, hswst⟩ := hck
        obtain ⟨alt, halt⟩ := swStay_spec hswst
        unfold drawStaticW at hstW
        rw [Bool.and_eq_true, Bool.and_eq_true] at hstW
        obtain ⟨hE, hP, hsel⟩ := hstW
        refine wp_region_any hm ?_
        have hge : base ≤ nx := by rw [← hnx]; cases fl <;> simp
        have hfl : ∀ j, Flo fl ops j → base + j < nx := fun j ⟨o, ho, hf⟩ => by
          have hlt := (Array.getElem?_eq_some_iff.1 ho).1
          rw [← hnx]
          cases fl with
          | false => simp [floats] at hf
          | true => show base + j < base + ops.size; omega
        have hbase : ∀ b, B.no b → b < base := fun b hb => (hw.gone b hb).1
        have hw1 : WRel sy G ⟨B.blk, fun b => B.no b ∨ ∃ j, Flo fl ops j ∧ b = base + j⟩ { w with drawn := w.drawn + 1 } ρ ⟨h0, nx, d0⟩ { w with drawn := w.drawn + 1 } := {
          below := Kept.refl _ _
          base := hw.base
          ro := hw.ro
          gone := fun b hb => by
            rcases hb with hb | ⟨j, hj, rfl⟩
            · have := hw.gone b hb
              exact ⟨Nat.lt_of_lt_of_le this.1 hge, this.2⟩
            · refine ⟨hfl j hj, ?_⟩
              cases e : ρ (base + j) with
              | none => rfl
              | some i => have := hw.dom _ _ e; simp only at this; omega
          glob := hw.glob
          dom := fun b i hb => Nat.lt_of_lt_of_le (hw.dom b i hb) hge
          obj := fun b o hb => (hw.drew.shrink (B := ⟨B.blk, B.no⟩) (w0 := w0) (fun _ h => h) (fun _ h => h) hw.ro hw.drew.below).obj b o hb
          inj := hw.inj }
        have none0 : ∀ j, (Array.replicate ops.size false).getD j false = false := fun j => by
          cases hl : (Array.replicate ops.size false).getD j false with
          | false => rfl
          | true =>
            have := getD_false_lt hl
            simp at this
            simp [this] at hl
        refine inv_any (ρ0 := ρ) (alt := alt) hall hE hP hsw hq hD0 hstay halt hbase hw.ro ?hpan (fun listed a' w' hinv hfull => ?_) ops.size _ a _ ⟨by simp, ?_, fun _ _ => none0 _, hw.drew.below, ρ, ⟨h0, nx, d0⟩, _, Ren.le_refl _, ?_, hw1, hd, hs.ng, hs.size, fun t => ?_, ?_⟩ ?_
        case hpan =>
          intro ip pv ps ρ' v' a' w' hpp hle hv hw' hd' hng hsz' hsl
          rw [hpp] at h1
          cases h1
          refine ⟨ρ', hle, ⟨v', rfl, hv⟩, ⟨hng, hsz', fun t => ?_⟩, hd', hw'⟩
          have e1 : look cx (maskE (unwritten ops.toList) cx.vars env) .nil t = look cx (maskE (unwritten ops.toList) cx.vars env) (maskL (unwritten ops.toList) .nil) t := rfl
          rw [e1, look_mask]
          by_cases ht : unwritten ops.toList t = true
          · rw [if_pos ht]
            have := hsl t ht
            rw [hE0, hL0] at this
            exact this
          · rw [if_neg ht]; simp [VRel]
        · have hpn' : pan = none := by
            cases hp : pan with
            | none => rfl
            | some x =>
              exfalso
              have hlt := (hpn.2 rfl x hp).2
              rw [Nat.zero_add, Array.length_toList] at hlt
              have h := hinv.np x hp
              rw [hfull x.1 hlt] at h
              cases h
          rw [hpn'] at h1
          simp only at h1
          cases hmat : matF base (fun _ => true) (D ops.size) (S ops.size) with
          | none => rw [hmat] at h1; cases h1
          | some sp => ?_
          obtain ⟨stf, pdf⟩ := sp
          rw [hmat] at h1
          cases h1
          obtain ⟨ρ', stk, B', hle, hk, hw', hd', hng, hsz', hslot, hpend⟩ := hinv.ex
          have hstk : stk = S ops.size := by
            rcases hk with ⟨_, h⟩ | ⟨⟨p, q, k1, k2, k3⟩, _⟩
            · rw [kD_of (Nat.le_refl _) fun c hc => ⟨fun _ => chg_lt hc, fun h => hfull c h⟩, seq_states hq (Nat.le_refl _)] at h
              exact (Option.some.inj h).symm
            · obtain ⟨⟨x, hx, _⟩, _⟩ := hsw p q k1
              rw [hfull p (Array.getElem?_eq_some_iff.1 hx).1] at k3; cases k3
          subst hstk
          obtain ⟨hnd, hmem⟩ := seq_pend hq (anc_lt hE) hD0 ops.size (Nat.le_refl _)
          have hfloD : ∀ j ob, (j, ob) ∈ D ops.size → Flo fl ops j ∧ listed.getD j false = true ∧ Unl P fl ops listed j ∧ ObAt P cx call fl base recs j ob := fun j ob hj => by
            obtain ⟨q1, q2, q3⟩ := (hmem j ob).1 hj
            have q2' := q2
            obtain ⟨r, s, r1, r2, _⟩ := q2'
            exact ⟨⟨r.o, seq_op hq r1, r2.1⟩, hfull j q1, (fun c hc _ => q3 c (chg_lt hc) hc), q2⟩
          obtain ⟨B2, m1, m2, m3, m4, m5, _⟩ := mat_ok (B := B) (D ops.size) (S ops.size) _ _ B' hmat hw' hpend.sub hpend.no hnd
            (fun j ob hj _ => by
              obtain ⟨f1, f2, f3, f4⟩ := hfloD j ob hj
              obtain ⟨ob', g1, g2⟩ := hpend.held j f1 f2 f3
              rw [f4.same g1]; exact g2)
            (fun j ob j' ob' i1 i2 hj hj' _ _ k1 k2 e => by
              obtain ⟨f1, f2, f3, _⟩ := hfloD j ob hj
              obtain ⟨f1', f2', f3', _⟩ := hfloD j' ob' hj'
              exact hpend.apart j j' i1 i2 f1 f1' f2 f2' f3 f3' k1 k2 e)
          have hwf : WRel sy G B w0 ρ' _ w' := m1.shrink m3 (fun b hb => (m4 b).2 (hpend.no b hb)) hw.ro hinv.kept
          refine ⟨ρ', hle, rfl, ⟨hng, hsz', fun t => ?_⟩, by rw [m2]; exact hd', hwf⟩
          have hlk := seq_look hq t ops.size (Nat.le_refl _)
          have hsl := hslot t
          rw [valF_congr recs (fun j => listed.getD j false) (fun j => decide (j < ops.size)) 0 t _ fun j r hj _ => by
            rw [Nat.zero_add]
            have hj' : j < ops.size := by rw [← seq_size hq]; exact (List.getElem?_eq_some_iff.1 hj).1
            rw [hfull j hj']; simp [hj']] at hsl
          have hdrop : LeV (look cx (E ops.size) .nil t) (look cx (E ops.size) (L ops.size) t) := by
            unfold look
            split
            · exact .inr rfl
            · exact .inl rfl
          exact LeV.rel (hdrop.trans hlk) hsl
        · intro j o _ hl
          rw [none0] at hl; cases hl
        · refine .inl ⟨?_, ?_⟩
          · rintro ⟨p, q, _, k2, _⟩
            rw [none0] at k2; cases k2
          · have h2 : kD P fl ops (Array.replicate ops.size false) = kI P fl ops 0 := kD_of (by omega) fun c _ => by rw [none0]; simp
            rw [h2, seq_states hq (by omega), hS0]
        · have : valF recs (fun j => (Array.replicate ops.size false).getD j false) 0 t (look cx (E 0) (L 0) t) = look cx (E 0) (L 0) t := by
            have key : ∀ (recs : List Rec) (i : Nat) (c : CV), valF recs (fun j => (Array.replicate ops.size false).getD j false) i t c = c := by
              intro recs
              induction recs with
              | nil => intros; rfl
              | cons x xs ihx =>
                intro i c
                rw [valF_cons, ihx]
                rw [if_neg]
                rintro ⟨h1, _⟩
                rw [none0] at h1; cases h1
            exact key recs 0 _
          rw [this, hE0, hL0]
          exact hs.slot t
        · exact {
            sub := fun _ h => h
            no := fun b hb => .inl hb
            un := fun j hj _ => .inr ⟨j, hj, rfl⟩
            held := fun j _ hl _ => by rw [none0] at hl; cases hl
            apart := fun j _ _ _ _ _ hl => by rw [none0] at hl; cases hl }
        · have : ((List.range ops.size).countP fun j => !(Array.replicate ops.size false).getD j false) ≤ (List.range ops.size).length := List.countP_le_length
          simpa using this
end
end Go.Proofs.YtbmbjaogcmokoaaGreatDoorX

namespace Go.Proofs.YtbmbjaogcmokoaaGreatDoorX
open Go Go.RowKit
set_option linter.unusedVariables false

noncomputable def saysTrue (x : RV) : Bool :=
  match x with
  | .ok (.bool true) _ => true
  | _ => false

def ren0 (G : Nat) : Ren := fun g => if g < G then some ⟨g, 0, 0, 0⟩ else none

theorem wrel0 (sy : Sy) (hro : ∀ k, ¬ sy.ro k) (G : Nat) (w : World) : WRel sy G ⟨fun k => k < w.heap.size, fun _ => False⟩ w (ren0 G) ⟨.nil, G, []⟩ w where
  below := ⟨rfl, rfl, rfl, Nat.le_refl _, fun _ _ => rfl⟩
  base := fun _ h => h
  ro := fun k h => absurd h (hro k)
  gone := fun _ h => h.elim
  glob := fun g hg => ⟨⟨g, 0, 0, 0⟩, by simp [ren0, hg], rfl, rfl⟩
  dom := fun b i h => by
    unfold ren0 at h
    split at h
    · assumption
    · cases h
  obj := fun b o h => by cases h
  inj := fun b1 b2 o1 o2 i1 i2 h => by cases h

/-- The run's answer at the start says 'true': so does every run of the model's. -/
theorem law_true {P : Program} {G : Nat} {hint : Nat → List Nat} {n f : Nat} (hm : P.follows .mixedOrders = true) (he : enters P f = true) (h : saysTrue (run P G hint n f [] ⟨.nil, G, []⟩) = true) (w : World) :
    Calls P f #[] w fun e w' => e = .returned (.bool true) ∧ Below w.heap.size w w' := by
  have hr := run_ok (sy := ⟨fun _ => default, fun _ => False⟩) (G := G) (fun _ _ => draw_ok hm) hint n ⟨fun k => k < w.heap.size, fun _ => False⟩ w f [] ⟨.nil, G, []⟩ (ren0 G) w [] (by simp [VRels]) (wrel0 _ (fun _ h => h) G w) he
  generalize run P G hint n f [] ⟨.nil, G, []⟩ = x at h hr
  cases x with
  | err k => cases h
  | pan v s => cases h
  | ok v s =>
    have hv : v = .bool true := by
      cases v <;> first | (rename_i b; cases b <;> first | rfl | cases h) | cases h
    subst hv
    refine hr.2.mono fun e w' ⟨ρ', v', he, _, hv', hw⟩ => ?_
    simp only [VRel] at hv'
    subst hv'
    exact ⟨he, ⟨hw.below.os, hw.below.tape, hw.below.output, hw.below.size, hw.below.block⟩⟩
/-- The same, with answers that are known. -/
theorem law_trueO {P : Program} {G : Nat} {hint : Nat → List Nat} {orc : Orc} {n f : Nat} (hm : P.follows .mixedOrders = true) (ho : OrcOk P orc) (he : enters P f = true) (h : saysTrue (runO P G hint orc n f [] ⟨.nil, G, []⟩) = true) (w : World) :
    Calls P f #[] w fun e w' => e = .returned (.bool true) ∧ Below w.heap.size w w' := by
  have hr := runO_ok (sy := ⟨fun _ => default, fun _ => False⟩) (G := G) (fun _ _ => draw_ok hm) hint ho n ⟨fun k => k < w.heap.size, fun _ => False⟩ w f [] ⟨.nil, G, []⟩ (ren0 G) w [] (by simp [VRels]) (wrel0 _ (fun _ h => h) G w) he
  generalize runO P G hint orc n f [] ⟨.nil, G, []⟩ = x at h hr
  cases x with
  | err k => cases h
  | pan v s => cases h
  | ok v s =>
    have hv : v = .bool true := by
      cases v <;> first | (rename_i b; cases b <;> first | rfl | cases h) | cases h
    subst hv
    refine hr.2.mono fun e w' ⟨ρ', v', he, _, hv', hw⟩ => ?_
    simp only [VRel] at hv'
    subst hv'
    exact ⟨he, ⟨hw.below.os, hw.below.tape, hw.below.output, hw.below.size, hw.below.block⟩⟩

/-! ## Answers that are known -/
mutual
theorem VRel.plain {sy sy' : Sy} {ρ ρ' : Ren} : ∀ (x : CV) (v : Value), plainV x = true → VRel sy ρ x v → VRel sy' ρ' x v
  | .unk, _, h, _ => by simp [plainV] at h
  | .bool b, _, _, k => by simpa [VRel] using k
  | .int _ _, _, _, k => by simpa [VRel] using k
  | .float _ _, _, _, k => by simpa [VRel] using k
  | .str _ _, _, _, k => by simpa [VRel] using k
  | .sym _ _, _, h, _ => by simp [plainV] at h
  | .slen _, _, h, _ => by simp [plainV] at h
  | .smod _, _, h, _ => by simp [plainV] at h
  | .ptr b o, _, h, _ => by simp [plainV] at h
  | .nilp, _, _, k => by simpa [VRel] using k
  | .slice _ _ _ _ _, _, h, _ => by simp [plainV] at h
  | .nils, _, _, k => by simpa [VRel] using k
  | .map _, _, h, _ => by simp [plainV] at h
  | .nilm, _, _, k => by simpa [VRel] using k
  | .func _ _ _, _, h, _ => by simp [plainV] at h
  | .nilf, _, _, k => by simpa [VRel] using k
  | .iface _ x, _, h, k => by
    simp only [plainV] at h
    simp only [VRel] at *
    obtain ⟨x', e, hx⟩ := k
    exact ⟨x', e, VRel.plain x x' h hx⟩
  | .nili, _, _, k => by simpa [VRel] using k
  | .agg l, _, h, k => by
    simp only [plainV] at h
    simp only [VRel] at *
    obtain ⟨l', e, hx⟩ := k
    exact ⟨l', e, VRels.plain l l' h hx⟩
  | .tup l, _, h, k => by
    simp only [plainV] at h
    simp only [VRel] at *
    obtain ⟨l', e, hx⟩ := k
    exact ⟨l', e, VRels.plain l l' h hx⟩
theorem VRels.plain {sy sy' : Sy} {ρ ρ' : Ren} : ∀ (l : List CV) (l' : List Value), plainVs l = true → VRels sy ρ l l' → VRels sy' ρ' l l'
  | [], _, _, k => by simpa [VRels] using k
  | x :: r, _, h, k => by
    simp only [plainVs, Bool.and_eq_true] at h
    simp only [VRels] at *
    obtain ⟨y, s, e, hx, hr⟩ := k
    exact ⟨y, s, e, VRel.plain x y h.1 hx, VRels.plain r s h.2 hr⟩
end

def KnownOk (P : Program) (p : Known) : Prop := ∀ (sy : Sy) (ρ : Ren) (args' : List Value) (w : World), VRels sy ρ p.args args' →
  Calls P p.fn args'.toArray w fun e w' => ∃ v', e = .returned v' ∧ VRel sy ρ p.val v' ∧ Below w.heap.size w w'
theorem known_of_run {P : Program} {G : Nat} {hint : Nat → List Nat} {orc : Orc} {n : Nat} (hm : P.follows .mixedOrders = true) (ho : OrcOk P orc) {p : Known} (he : enters P p.fn = true) (ha : plainVs p.args = true) (hv : plainV p.val = true)
    (h : saysV p.val (runO P G hint orc n p.fn p.args ⟨.nil, G, []⟩) = true) : KnownOk P p := by
  intro sy ρ args' w hargs
  have hr := runO_ok (sy := ⟨fun _ => default, fun _ => False⟩) (G := G) (fun _ _ => draw_ok hm) hint ho n ⟨fun k => k < w.heap.size, fun _ => False⟩ w p.fn p.args ⟨.nil, G, []⟩ (ren0 G) w args' (hargs.plain _ _ ha) (wrel0 _ (fun _ h => h) G w) he
  generalize runO P G hint orc n p.fn p.args ⟨.nil, G, []⟩ = x at h hr
  cases x with
  | err k => cases h
  | pan v s => cases h
  | ok v s =>
    have e1 : v = p.val := eqCV_eq _ _ h
    subst e1
    refine hr.2.mono fun e w' ⟨ρ', v', he, _, hv', hw⟩ => ⟨v', he, hv'.plain _ _ hv, ⟨hw.below.os, hw.below.tape, hw.below.output, hw.below.size, hw.below.block⟩⟩
theorem findK_spec {f : Nat} {args : List CV} {v : CV} : ∀ (l : List Known), findK f args l = some v → ∃ p ∈ l, p.fn = f ∧ args = p.args ∧ p.val = v
  | [], h => by cases h
  | ⟨g, as, u⟩ :: r, h => by
    unfold findK at h
    simp only at h
    cases hb : Nat.beq g f && eqCVs args as with
    | true =>
      rw [hb] at h
      cases h
      rw [Bool.and_eq_true] at hb
      exact ⟨⟨g, as, v⟩, by simp, Nat.eq_of_beq_eq_true hb.1, eqCVs_eq _ _ hb.2, rfl⟩
    | false =>
      rw [hb] at h
      obtain ⟨p, hp, k⟩ := findK_spec r h
      exact ⟨p, by simp [hp], k⟩
theorem orcL_ok {P : Program} {l : List Known} (h : ∀ p ∈ l, KnownOk P p) : OrcOk P (orcL l) := by
  intro f g hg args v hv sy ρ args' w hargs
  unfold orcL at hg
  cases hs : someK f l with
  | false => rw [hs] at hg; cases hg
  | true =>
    rw [hs] at hg
    cases hg
    obtain ⟨p, hp, rfl, rfl, rfl⟩ := findK_spec l hv
    exact h p hp sy ρ args' w hargs
theorem orcL_nil {P : Program} : OrcOk P (orcL []) := orcL_ok (fun _ h => by cases h)
end Go.Proofs.YtbmbjaogcmokoaaGreatDoorX

namespace Go.Proofs.YtbmbjaogcmokoaaGreatDoorX
open Go Go.RowKit
set_option linter.unusedVariables false

/-- a row of codes -/
def flat (c : Code) : List Code := match c with
  | .seq a b => flat a ++ flat b
  | c => [c]
def wpL (P : Program) (Q : Exit → Act → World → Prop) : List Code → Act → World → Prop
  | [], a, w => Q .normal a w
  | c :: r, a, w => c.wp P (Exit.then (wpL P Q r) Q) a w

section
variable {P : Program} {Q : Exit → Act → World → Prop}
theorem wpL_mono {Q' : Exit → Act → World → Prop} (h : ∀ e a w, Q e a w → Q' e a w) : ∀ (l : List Code) (a : Act) (w : World), wpL P Q l a w → wpL P Q' l a w
  | [], a, w, k => h _ _ _ k
  | c :: r, a, w, k => Code.wp_mono (fun e a w q => by
      cases e <;> first | exact wpL_mono h r a w q | exact h _ _ _ q) k
theorem wpL_app : ∀ (l m : List Code) (a : Act) (w : World), wpL P Q (l ++ m) a w → wpL P (Exit.then (wpL P Q m) Q) l a w
  | [], m, a, w, h => h
  | c :: r, m, a, w, h => Code.wp_mono (fun e a w q => by
      cases e <;> first | exact wpL_app r m a w q | exact q) h
theorem wpL_join : ∀ (l m : List Code) (a : Act) (w : World), wpL P (Exit.then (wpL P Q m) Q) l a w → wpL P Q (l ++ m) a w
  | [], m, a, w, h => h
  | c :: r, m, a, w, h => Code.wp_mono (fun e a w q => by
      cases e <;> first | exact wpL_join r m a w q | exact q) h
theorem wp_one {c : Code} {a : Act} {w : World} (h : wpL P Q [c] a w) : c.wp P Q a w := Code.wp_mono (fun e a w q => by cases e <;> exact q) h
theorem wp_flat : ∀ (c : Code) (Q : Exit → Act → World → Prop) (a : Act) (w : World), wpL P Q (flat c) a w → c.wp P Q a w := by
  intro c
  induction c with
  | seq x y ihx ihy =>
    intro Q a w h
    unfold flat at h
    refine wp_seq (Code.wp_mono (fun e a w q => ?_) (ihx _ a w (wpL_app _ _ _ _ h)))
    cases e <;> first | exact ihy _ _ _ q | exact q
  | _ => intro Q a w h; exact wp_one h
end

noncomputable def denL (P : Program) (cx : Cx) (l : List Code) : CodeF := match l with
  | [] => ⟨fun _ env st => .ok .normal env st⟩
  | c :: r => ⟨fun call env st => match (den P cx c).f call env st with
    | .ok e env st => match e with
      | .normal => (denL P cx r).f call env st
      | e => .ok e env st
    | .err n => .err n⟩

section
variable {sy : Sy} {G : Nat} {B : Kp} {w0 : World} {P : Program} {ρ ρ' : Ren} {cx : Cx} {env env2 : List CV} {a : Act} {st st2 : St} {w : World} {call : Caller} {e : Ex}

theorem denL_ok (hden : ∀ c, Den sy G B w0 P cx c ((den P cx c).f call)) : ∀ (l : List Code) (env : List CV) (st : St) (e : Ex) (env2 : List CV) (st2 : St) (ρ : Ren) (a : Act) (w : World), (denL P cx l).f call env st = .ok e env2 st2 →
    SR sy G cx ρ env .nil a → DRel sy ρ st.dfs a.defers → WRel sy G B w0 ρ st w → wpL P (PostC sy G B w0 cx ρ e env2 st2) l a w
  | [], env, st, e, env2, st2, ρ, a, w, hr, hs, hd, hw => by
    have hr' : R.ok .normal env st = .ok e env2 st2 := hr
    cases hr'
    exact ⟨ρ, Ren.le_refl _, rfl, hs, hd, hw⟩
  | c :: r, env, st, e, env2, st2, ρ, a, w, hr, hs, hd, hw => by
    have hr' : (match (den P cx c).f call env st with
      | .ok e env st => match e with
        | .normal => (denL P cx r).f call env st
        | e => .ok e env st
      | .err n => .err n : R) = .ok e env2 st2 := hr
    cases hf : (den P cx c).f call env st with
    | err k => rw [hf] at hr'; cases hr'
    | ok e1 env1 st1 =>
      rw [hf] at hr'
      refine Code.wp_mono (fun e' a' w' hp => ?_) (hden c env st e1 env1 st1 ρ a w hf hs hd hw)
      obtain ⟨ρ1, hle, hex, hs1, hd1, hw1⟩ := hp
      cases e1 with
      | normal =>
        simp only [ExRel] at hex
        subst hex
        exact wpL_mono (fun _ _ _ h => h.mono hle) r a' w' (denL_ok hden r env1 st1 e env2 st2 ρ1 a' w' hr' hs1 hd1 hw1)
      | exit id => simp only at hr'; cases hr'; simp only [ExRel] at hex; subst hex; exact ⟨ρ1, hle, rfl, hs1, hd1, hw1⟩
      | ret => simp only at hr'; cases hr'; simp only [ExRel] at hex; subst hex; exact ⟨ρ1, hle, rfl, hs1, hd1, hw1⟩
      | panic v => simp only at hr'; cases hr'; obtain ⟨v', rfl, hv⟩ := hex; exact ⟨ρ1, hle, ⟨v', rfl, hv⟩, hs1, hd1, hw1⟩

/-- a function's code has ended: what it owes its caller -/
theorem end_ok (hdraw : DrawOk sy G B w0 P) (hall : ∀ B w0, CallerSound sy G B w0 P call) (hint : Nat → List Nat) {fn : Func} {d : List Dfr} {r : RV} {e' : Exit} {w' : World} {a' : Act} (hne : ∀ k, r ≠ .err k)
    (hr : endF P G hint cx fn.results.toList call d (.ok e env2 st2) = r) (hp : PostC sy G B w0 cx ρ e env2 st2 e' a' w') : bodyPostM P fn (RetR sy G B w0 ρ r) e' a' w' := by
  obtain ⟨ρ1, hle1, hex, hs1, hd1, hw1⟩ := hp
  obtain ⟨h1, n1, d1⟩ := st2
  have hs2 : SR sy G cx ρ1 env2 .nil { tmps := a'.tmps, defers := [] } := ⟨hs1.ng, hs1.size, hs1.slot⟩
  cases e with
  | normal =>
    have he : e' = .normal := hex
    subst he
    exact leave_ok hdraw hall hint hne d1 a'.defers none .returning h1 n1 ρ1 w' hr hle1 hd1 hw1.dfs rfl hs2
  | ret =>
    have he : e' = .ret := hex
    subst he
    exact leave_ok hdraw hall hint hne d1 a'.defers none .returning h1 n1 ρ1 w' hr hle1 hd1 hw1.dfs rfl hs2
  | exit id => simp only [endF] at hr; exact absurd hr.symm (hne _)
  | panic v =>
    obtain ⟨v', rfl, hv⟩ := hex
    exact leave_ok hdraw hall hint hne d1 a'.defers (some v) (.panicking [⟨v', false, false⟩]) h1 n1 ρ1 w' hr hle1 hd1 hw1.dfs ⟨v', rfl, hv⟩ hs2
end

/-! ## The two parts -/
/-- how the first part ends -/
noncomputable def headEnv (r : R) : Option (List CV × St) := match r with
  | .ok e env st => match e with
    | .normal => some (env, st)
    | _ => none
  | .err _ => none
def isStart (G : Nat) (st : St) : Bool := match st with
  | ⟨h, n, d⟩ => match h with
    | .nil => match d with
      | [] => Nat.beq n G
      | _ => false
    | _ => false
/-- the first part ends as it is said: where 'E' is known -/
noncomputable def headSays (G : Nat) (E : List CV) (r : R) : Bool := match headEnv r with
  | some (env, st) => keptE E env && isStart G st
  | none => false

/-- the second part says 'true' from where the first part ends: so does the function -/
theorem two_parts {P : Program} {G : Nat} {hint : Nat → List Nat} {orc : Orc} {n f k : Nat} {fn : Func} {c : Code} {args : List CV} {args' : List Value} {sy : Sy} {E : List CV} (hro : ∀ k, ¬ sy.ro k) (hm : P.follows .mixedOrders = true) (ho : OrcOk P orc)
    (hf : P.funcs[f]? = some fn) (hb : fn.body = some c) (hn : args.length ≤ fn.ntmps) (hargs : ∀ ρ, VRels sy ρ args args')
    (hhead : headSays G E ((denL P ⟨hint f, fn.ntmps, G⟩ ((flat c).take k)).f (runO P G hint orc n) (initEnv (hint f) args) ⟨.nil, G, []⟩) = true)
    (htail : saysTrue (endF P G hint ⟨hint f, fn.ntmps, G⟩ fn.results.toList (runO P G hint orc n) [] ((denL P ⟨hint f, fn.ntmps, G⟩ ((flat c).drop k)).f (runO P G hint orc n) E ⟨.nil, G, []⟩)) = true) (w : World) :
    Calls P f args'.toArray w fun e w' => e = .returned (.bool true) ∧ Below w.heap.size w w' := by
  have hw0 := wrel0 sy hro G w
  have hall : ∀ B w0, CallerSound sy G B w0 P (runO P G hint orc n) := fun B w0 => runO_ok (fun _ _ => draw_ok hm) hint ho n B w0
  have hden : ∀ B w0 c, Den sy G B w0 P ⟨hint f, fn.ntmps, G⟩ c ((den P ⟨hint f, fn.ntmps, G⟩ c).f (runO P G hint orc n)) := fun B w0 => den_ok hall (draw_ok hm _ _ hall)
  have hsr := init_sr (G := G) (vars := hint f) (hargs (ren0 G)) hn
  unfold headSays at hhead
  generalize hH : (denL P ⟨hint f, fn.ntmps, G⟩ ((flat c).take k)).f (runO P G hint orc n) (initEnv (hint f) args) ⟨.nil, G, []⟩ = rh at hhead
  cases rh with
  | err m => cases hhead
  | ok e1 env1 st1 =>
    cases e1 <;> simp only [headEnv] at hhead <;> try (cases hhead; done)
    rw [Bool.and_eq_true] at hhead
    obtain ⟨hk, hst⟩ := hhead
    have hst1 : st1 = ⟨.nil, G, []⟩ := by
      obtain ⟨h, m, d⟩ := st1
      unfold isStart at hst
      cases h <;> simp only at hst <;> try (cases hst; done)
      cases d <;> simp only at hst <;> try (cases hst; done)
      rw [Nat.eq_of_beq_eq_true hst]
    subst hst1
    generalize hT : (denL P ⟨hint f, fn.ntmps, G⟩ ((flat c).drop k)).f (runO P G hint orc n) E ⟨.nil, G, []⟩ = rt at htail
    cases rt with
    | err m => cases htail
    | ok e2 env2 st2 =>
      generalize hR : endF P G hint ⟨hint f, fn.ntmps, G⟩ fn.results.toList (runO P G hint orc n) [] (.ok e2 env2 st2) = r at htail
      have hr : ∃ s, r = .ok (.bool true) s := by
        cases r with
        | err m => cases htail
        | pan v s => cases htail
        | ok v s =>
          cases v <;> first | (rename_i b; cases b <;> first | exact ⟨_, rfl⟩ | cases htail) | cases htail
      obtain ⟨s, rfl⟩ := hr
      refine Calls.mono (calls_of_wp_marks hf hb (R := RetR sy G ⟨fun k => k < w.heap.size, fun _ => False⟩ w (ren0 G) (.ok (.bool true) s)) ?_) fun e w' ⟨ρ', v', he, _, hv', hw⟩ => ?_
      · refine wp_flat _ _ _ _ ?_
        rw [← List.take_append_drop k (flat c)]
        refine wpL_join _ _ _ _ ?_
        refine wpL_mono (fun e' a' w' hp => ?_) _ _ _ (denL_ok (hden _ _) _ _ _ _ _ _ (ren0 G) _ w hH hsr (by exact rfl) hw0)
        obtain ⟨ρ1, hle, hex, hs1, hd1, hw1⟩ := hp
        simp only [ExRel] at hex
        subst hex
        have hs2 : SR sy G ⟨hint f, fn.ntmps, G⟩ ρ1 E .nil a' := hs1.less fun t => less_nth (keptE_less _ _ hk) t
        show wpL P _ _ a' w'
        refine wpL_mono (fun e3 a3 w3 hp3 => ?_) _ _ _ (denL_ok (hden _ _) _ _ _ _ _ _ ρ1 _ w' hT hs2 hd1 hw1)
        exact end_ok (draw_ok hm) hall hint (fun _ h => by cases h) hR (hp3.mono hle)
      · simp only [VRel] at hv'
        subst hv'
        exact ⟨he, ⟨hw.below.os, hw.below.tape, hw.below.output, hw.below.size, hw.below.block⟩⟩
end Go.Proofs.YtbmbjaogcmokoaaGreatDoorX
