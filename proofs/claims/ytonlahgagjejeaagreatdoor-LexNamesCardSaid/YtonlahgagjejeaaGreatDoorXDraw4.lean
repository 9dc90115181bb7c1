/- Regions that draw their order (4): the theorem. -/
import Derived.Test.YtonlahgagjejeaaGreatDoorXDraw3
namespace Go.Proofs.YtonlahgagjejeaaGreatDoorX
open Go Go.RowKit
set_option linter.unusedVariables false

section
variable {sy : Nat → ByteArray} {G B : Nat} {w0 : World} {P : Program} {cx : Cx} {call : Caller}

theorem guard_mask {ops : Array Oper} {o : Oper} {env : List CV} {loc : Loc} {b : Bool} (h : GuardIs cx ops.toList o.guard env loc b) {T : Nat → Bool} (hT : ∀ t ∈ o.looksAt ops, T t = true) :
    GuardIs cx ops.toList o.guard (maskE T cx.vars env) (maskL T loc) b := by
  intro K
  rw [← h K]
  unfold guardF
  cases hg : o.guard with
  | none => rfl
  | some jw =>
    obtain ⟨j, wt⟩ := jw
    simp only
    cases hj : ops.toList[j]? with
    | none => rfl
    | some oj =>
      simp only
      cases hd : oj.dst with
      | none => rfl
      | some d =>
        simp only
        have hj' : ops[j]? = some oj := by simpa using hj
        have hm : T d = true := hT d (by
          unfold Oper.looksAt
          rw [hg]
          simp [hj', hd])
        rw [evTmpAt_eq, evTmpAt_eq, look_mask, if_pos hm]

structure Inv (P : Program) (sy : Nat → ByteArray) (G B : Nat) (w0 : World) (cx : Cx) (ops : Array Oper) (recs : List Rec) (st2 : St) (env : List CV) (ρ0 : Ren) (listed : Array Bool) (a : Act) (w : World) : Prop where
  size : listed.size = ops.size
  dc : DC ops listed
  ex : ∃ ρ st, ρ0.le ρ ∧ (statesOf P recs st2)[kD P ops listed]? = some st ∧ WRel sy G B w0 ρ st w ∧ DRel sy ρ st.dfs a.defers ∧ cx.ng = G ∧ cx.nt ≤ a.tmps.size ∧
    ∀ t, VRel sy ρ (valF recs (fun j => listed.getD j false) 0 t (look cx env .nil t)) (a.tmps.getD t undef)

theorem put_defers (a : Act) (d : Option Tmp) (v : Value) : (a.put d v).defers = a.defers := by cases d <;> rfl

theorem getD_false_lt {l : Array Bool} {j : Nat} (h : l.getD j false = true) : j < l.size := by
  rcases Nat.lt_or_ge j l.size with h' | h'
  · exact h'
  · simp [Array.getElem?_eq_none h'] at h

/-- what is listed, one operation more -/
theorem inv_step {ops : Array Oper} {recs : List Rec} {env env2 : List CV} {loc2 : Loc} {st st2 : St} {ρ0 : Ren} {listed : Array Bool} {a : Act} {w : World} {Q : Exit → Act → World → Prop} {K : Act → World → Prop} {i : Nat}
    (hcall : CallerSound sy G B w0 P call) (hE : edgesOk 0 ops.toList = true) (hP : pairsOk P ops (ancs ops.toList []) = true)
    (hch : Chain P cx call ops.toList ops.toList env .nil st recs env2 loc2 st2)
    (hstay : stayAll P cx call (ancs ops.toList []) (changersAt P 0 ops.toList) (statesOf P recs st2) 0 recs = true)
    (hinv : Inv P sy G B w0 cx ops recs st2 env ρ0 listed a w) (hi : i ∈ Region.ready .any ops listed)
    (hK : ∀ a' w', Inv P sy G B w0 cx ops recs st2 env ρ0 (listed.setIfInBounds i true) a' w' → K a' w') : wpOp P ops Q i K a w := by
  obtain ⟨hun0, oi, hoi, hdeps⟩ := mem_ready.1 hi
  have hilt : i < ops.size := (Array.getElem?_eq_some_iff.1 hoi).1
  have hils : i < listed.size := by rw [hinv.size]; exact hilt
  have hun : listed.getD i false = false := by
    simp [hils] at hun0 ⊢; exact hun0
  obtain ⟨hlen, hops⟩ := chain_len hch
  have hrl : i < recs.length := by rw [hlen]; simpa using hilt
  obtain ⟨ri, hri⟩ : ∃ r, recs[i]? = some r := ⟨recs[i], List.getElem?_eq_getElem hrl⟩
  have hro : ri.o = oi := by
    have := hops i ri hri
    rw [show ops.toList[i]? = ops[i]? by simp, hoi] at this
    exact (Option.some.inj this).symm
  have recO : ∀ (j : Nat) (r : Rec), recs[j]? = some r → ops[j]? = some r.o := fun j r h => by simpa using hops j r h
  -- ancestors are listed
  have hanc : ∀ c, Nat.testBit ((ancs ops.toList []).getD i 0) c = true → listed.getD c false = true := fun c h => anc_listed hE hinv.dc i oi c hoi hdeps h
  -- what is listed does not wait for it
  have hdesc : ∀ c oc, ops[c]? = some oc → listed.getD c false = true → ¬ Nat.testBit ((ancs ops.toList []).getD c 0) i = true := fun c oc hc hl h => by
    have := anc_listed hE hinv.dc c oc i hc (hinv.dc c oc hc hl) h
    rw [hun] at this; cases this
  -- an operation beside: no order, or the order's side
  have side : ∀ j rj, recs[j]? = some rj → j ≠ i → (Oper.apart ops oi rj.o = true ∧ Oper.apart ops rj.o oi = true) ∨ (listed.getD j false = decide (j < i)) := fun j rj hj hne => by
    have hoj := recO j rj hj
    have sym : ∀ {x y : Oper}, Oper.apart ops x y = true → Oper.apart ops y x = true := fun {x y} h => by
      obtain ⟨h1, h2, h3⟩ := Oper.apart_spec h
      unfold Oper.apart
      rw [Bool.and_eq_true]
      refine ⟨?_, ?_⟩
      · cases hy : y.dst with
        | none => rfl
        | some d =>
          have := h3 d hy
          have h2' : x.dst ≠ some d := fun e => h2 d e hy
          simp [this]
          simpa using h2'
      · cases hx : x.dst with
        | none => rfl
        | some d => have := h1 d hx; simp [this]
    rcases Nat.lt_or_ge j i with hlt | hge
    · rcases pairsOk_spec hP hoj hoi hlt with h | ⟨_, h⟩
      · exact .inr (by rw [hanc j h]; simp [hlt])
      · exact .inl ⟨sym h, h⟩
    · have hlt : i < j := by omega
      rcases pairsOk_spec hP hoi hoj hlt with h | ⟨_, h⟩
      · refine .inr ?_
        cases hl : listed.getD j false with
        | true => exact absurd h (hdesc j rj.o hoj hl)
        | false => simp; omega
      · exact .inl ⟨h, sym h⟩
  obtain ⟨ρ, stk, hle0, hstk, hw, hd, hng, hsz, hslot⟩ := hinv.ex
  obtain ⟨hg, ⟨env1, loc1, hput⟩, hvf, hst, st1, hrun, hskip, hkeep, hnext⟩ := chain_rec hch i ri hri
  rw [hro] at hg hput hrun hkeep hnext
  -- the operation's slots
  let T : Nat → Bool := fun t => (oi.looksAt ops).contains t
  have hT : ∀ t ∈ oi.looksAt ops, T t = true := fun t ht => by simpa [T] using ht
  have hsr : SR sy G cx ρ (maskE T cx.vars ri.env) (maskL T ri.loc) a := ⟨hng, hsz, fun t => by
    rw [look_mask]
    by_cases ht : T t = true
    · rw [if_pos ht]
      have htm : t ∈ oi.looksAt ops := by simpa [T] using ht
      refine LeV.rel ((chain_look hch t).1 i ri hri) ?_
      rw [← valF_congr recs (fun j => listed.getD j false) (fun j => decide (j < i)) 0 t _ fun j rj hj hdj => ?_]
      · exact hslot t
      · rw [Nat.zero_add]
        by_cases hji : j = i
        · subst hji; rw [hun]; simp
        · rcases side j rj hj hji with ⟨_, h⟩ | h
          · obtain ⟨h1, _, _⟩ := Oper.apart_spec h
            exact absurd htm (h1 t hdj)
          · exact h
    · rw [if_neg ht]; simp [VRel]⟩
  have hev : ∀ x ∈ oi.op.operands.toList, (ev cx x).f (maskE T cx.vars ri.env) (maskL T ri.loc) = (ev cx x).f ri.env ri.loc := fun x hx => ev_mask fun t e => hT t (by
    subst e
    exact List.mem_append_left _ (List.mem_filterMap.2 ⟨.tmp t, hx, rfl⟩))
  -- slots behind it
  have slots : ∀ {ρ' : Ren} {v' : Value} {ds' : List Deferred}, ρ.le ρ' → VRel sy ρ' ri.v v' → cx.nt ≤ (({ a with defers := ds' } : Act).put oi.dst v').tmps.size ∧
      ∀ t, VRel sy ρ' (valF recs (fun j => (listed.setIfInBounds i true).getD j false) 0 t (look cx env .nil t)) ((({ a with defers := ds' } : Act).put oi.dst v').tmps.getD t undef) := by
    intro ρ' v' ds' hle hv
    refine ⟨by cases hdst : oi.dst <;> simp [Act.put] <;> exact hsz, fun t => ?_⟩
    by_cases ht : oi.dst = some t
    · have hlt : t < a.tmps.size := Nat.lt_of_lt_of_le ((put_look hput).1 t ht) hsz
      have e1 : (({ a with defers := ds' } : Act).put oi.dst v').tmps.getD t undef = v' := by
        rw [ht]
        simp only [Act.put]
        rw [getD_set _ _ _ _ _ hlt, if_pos rfl]
      rw [e1, valF_last recs _ 0 i t _ ri hri (by rw [hro]; exact ht) (by rw [Nat.zero_add]; simp [hils]) fun j rj hj hdj hlt' => ?_]
      · exact hv
      · rw [Nat.zero_add]
        have hne : j ≠ i := by omega
        rw [getD_set_ne false (Ne.symm hne)]
        rcases side j rj hj hne with ⟨h, _⟩ | h
        · obtain ⟨_, h2, _⟩ := Oper.apart_spec h
          exact absurd hdj (h2 t ht)
        · rw [h]; simp; omega
    · have e1 : (({ a with defers := ds' } : Act).put oi.dst v').tmps.getD t undef = a.tmps.getD t undef := by
        cases hdst : oi.dst with
        | none => rfl
        | some d =>
          have : d ≠ t := fun e => ht (by rw [hdst, e])
          simp [Act.put, Array.getElem?_setIfInBounds_ne this]
      rw [e1, ← valF_congr recs (fun j => listed.getD j false) _ 0 t _ fun j rj hj hdj => ?_]
      · exact (hslot t).mono sy hle
      · rw [Nat.zero_add]
        by_cases hji : j = i
        · subst hji
          rw [hri] at hj; cases hj
          rw [hro] at hdj
          exact absurd hdj ht
        · rw [getD_set_ne false (Ne.symm hji)]
  -- what is listed then
  have hdc' : DC ops (listed.setIfInBounds i true) := fun j o hj hl e he hb => by
    by_cases hji : j = i
    · subst hji
      rw [hoi] at hj; cases hj
      exact getD_set_true (hdeps e he hb)
    · rw [getD_set_ne false (Ne.symm hji)] at hl
      exact getD_set_true (hinv.dc j o hj hl e he hb)
  have hsz' : (listed.setIfInBounds i true).size = ops.size := by simp [hinv.size]
  -- the states
  have hcnt : ((recs.take i).countP fun r => !reads P r.o.op) = kI P ops i := by
    have : ∀ n, n ≤ recs.length → ((recs.take n).countP fun r => !reads P r.o.op) = kI P ops n := by
      intro n
      induction n with
      | zero => intro _; rfl
      | succ n ih =>
        intro hn
        have hn' : n < recs.length := by omega
        rw [List.take_add_one, List.getElem?_eq_getElem hn', kI_succ, ← ih (by omega)]
        simp only [Option.toList_some, List.countP_append, List.countP_singleton]
        have := recO n _ (List.getElem?_eq_getElem hn')
        simp [chg, this]
    exact this i (by omega)
  rw [hcnt] at hst hnext
  have hchg : chg P ops i = !reads P oi.op := by simp [chg, hoi]
  -- which of the changers are listed, where it is one
  have only : reads P oi.op = false → ∀ c, chg P ops c = true → c < ops.size → (listed.getD c false = true ↔ c < i) := fun hr c hc hclt => by
    obtain ⟨oc, hoc⟩ : ∃ o, ops[c]? = some o := ⟨ops[c], Array.getElem?_eq_getElem hclt⟩
    have hrc : reads P oc.op = false := by simpa [chg, hoc] using hc
    constructor
    · intro hl
      rcases Nat.lt_or_ge c i with h | h
      · exact h
      · exfalso
        have hne : c ≠ i := fun e => by subst e; rw [hun] at hl; cases hl
        rcases pairsOk_spec hP hoi hoc (by omega) with h1 | ⟨h1 | h1, _⟩
        · exact hdesc c oc hoc hl h1
        · rw [hr] at h1; cases h1
        · rw [hrc] at h1; cases h1
    · intro hlt
      rcases pairsOk_spec hP hoc hoi hlt with h1 | ⟨h1 | h1, _⟩
      · exact hanc c h1
      · rw [hrc] at h1; cases h1
      · rw [hr] at h1; cases h1
  -- the state behind it
  have behind : (reads P oi.op = true → kD P ops (listed.setIfInBounds i true) = kD P ops listed) ∧ (reads P oi.op = false → kD P ops listed = kI P ops i ∧ kD P ops (listed.setIfInBounds i true) = kI P ops i + 1) := by
    refine ⟨fun hr => kD_same (by rw [hchg, hr]; rfl), fun hr => ⟨kD_of (by omega) (only hr), ?_⟩⟩
    have h1 : kI P ops i + 1 = kI P ops (i + 1) := by rw [kI_succ, hchg, hr]; rfl
    rw [h1]
    refine kD_of (by omega) fun c hc hclt => ?_
    by_cases hci : c = i
    · subst hci
      simp [hils]
    · rw [getD_set_ne false (Ne.symm hci), only hr c hc hclt]
      omega
  unfold wpOp
  simp only [hoi]
  have hgm := guard_mask hg hT
  have hwant : Region.wanted oi (yielded ops a.tmps) = ri.wanted := by
    have hgr : (guardF cx ops.toList oi.guard).f (maskE T cx.vars ri.env) (maskL T ri.loc) (fun b => R.ok .normal [] ⟨.nil, if b then 1 else 0, []⟩) = R.ok .normal [] ⟨.nil, if ri.wanted then 1 else 0, []⟩ := hgm _
    obtain ⟨b, hb, hk⟩ := guard_rel (e := .normal) (env2 := []) hsr rfl hgr
    rw [hb]
    cases b <;> cases hwb : ri.wanted <;> rw [hwb] at hk <;> simp at hk <;> rfl
  rw [hwant]
  cases hwb : ri.wanted with
  | false =>
    rw [if_neg (by simp)]
    have hv0 := hvf hwb
    have := slots (ρ' := ρ) (v' := undef) (ds' := a.defers) (Ren.le_refl _) (by rw [hv0]; simp only [VRel]; exact ⟨[], rfl, VRels.nil⟩)
    refine hK _ _ ⟨hsz', hdc', ρ, stk, hle0, ?_, hw, ?_, hng, this.1, this.2⟩
    · cases hr : reads P oi.op with
      | true => rw [(behind.1 hr)]; exact hstk
      | false =>
        obtain ⟨b1, b2⟩ := behind.2 hr
        rw [b2, hnext hr, hskip hwb, ← hst, ← b1]
        exact hstk
    · rw [put_defers]; exact hd
  | true =>
    rw [if_pos rfl]
    refine .inl ?_
    have hop := op_ok (o := oi) (st := stk) hcall hsr hd hw
    rw [op_congr oi.op hev] at hop
    -- the executor's answer at this state
    obtain ⟨st', hans, hst'⟩ : ∃ st', (opF P cx oi.op).f call ri.env ri.loc stk = .ok ri.v st' ∧ (statesOf P recs st2)[kD P ops (listed.setIfInBounds i true)]? = some st' := by
      cases hr : reads P oi.op with
      | false =>
        obtain ⟨b1, b2⟩ := behind.2 hr
        have : stk = ri.st := by rw [b1, hst] at hstk; exact (Option.some.inj hstk).symm
        subst this
        exact ⟨st1, hrun hwb, by rw [b2]; exact hnext hr⟩
      | true =>
        refine ⟨stk, ?_, by rw [behind.1 hr]; exact hstk⟩
        by_cases hk : kD P ops listed = kI P ops i
        · have : stk = ri.st := by rw [hk, hst] at hstk; exact (Option.some.inj hstk).symm
          subst this
          rw [hrun hwb, hkeep hr]
        · -- the check
          have hs : ∀ (l : List Rec) (n : Nat) (j : Nat) (r : Rec), stayAll P cx call (ancs ops.toList []) (changersAt P 0 ops.toList) (statesOf P recs st2) n l = true → l[j]? = some r →
              (!(reads P r.o.op && r.wanted) || stay P cx call (statesOf P recs st2) r (loOf (ancs ops.toList []) (changersAt P 0 ops.toList) (n + j)) (hiOf (ancs ops.toList []) (changersAt P 0 ops.toList) (n + j)) (atOf (changersAt P 0 ops.toList) (n + j))) = true := by
            intro l
            induction l with
            | nil => intro n j r _ h; simp at h
            | cons x xs ihx =>
              intro n j r h hj
              unfold stayAll at h
              rw [Bool.and_eq_true] at h
              cases j with
              | zero => simp at hj; subst hj; exact h.1
              | succ j =>
                have := ihx (n + 1) j r h.2 (by simpa using hj)
                rw [show n + (j + 1) = n + 1 + j by omega]; exact this
          have h1 := hs recs 0 i ri hstay hri
          rw [hro, hr, hwb] at h1
          simp only [Bool.and_self, Bool.not_true, Bool.false_or, Nat.zero_add] at h1
          unfold stay at h1
          have hhi : kD P ops listed ≤ hiOf (ancs ops.toList []) (changersAt P 0 ops.toList) i := by
            unfold hiOf
            rw [filter_count]
            unfold kD
            apply List.countP_mono_left
            intro c hc h
            rw [Bool.and_eq_true] at h ⊢
            refine ⟨h.1, ?_⟩
            have hclt : c < ops.size := by simpa using hc
            have := hdesc c _ (Array.getElem?_eq_getElem hclt) h.2
            simpa using this
          have hlo : loOf (ancs ops.toList []) (changersAt P 0 ops.toList) i ≤ kD P ops listed := by
            unfold loOf
            rw [filter_count]
            unfold kD
            apply List.countP_mono_left
            intro c hc h
            rw [Bool.and_eq_true] at h ⊢
            exact ⟨h.1, hanc c h.2⟩
          have hat : atOf (changersAt P 0 ops.toList) i = kI P ops i := by
            unfold atOf
            rw [filter_count, ← count_lt ops.size i (by omega)]
            apply List.countP_congr
            intro c hc
            simp [Nat.blt_eq]
          have h2 := List.all_eq_true.1 h1 (kD P ops listed) (by simp; omega)
          rw [hat] at h2
          have n1 : Nat.blt (kD P ops listed) (loOf (ancs ops.toList []) (changersAt P 0 ops.toList) i) = false := by
            cases hb : Nat.blt (kD P ops listed) (loOf (ancs ops.toList []) (changersAt P 0 ops.toList) i) with
            | false => rfl
            | true => have : kD P ops listed < loOf (ancs ops.toList []) (changersAt P 0 ops.toList) i := by simpa [Nat.blt_eq] using hb
                      omega
          have n2 : Nat.beq (kD P ops listed) (kI P ops i) = false := by
            cases hb : Nat.beq (kD P ops listed) (kI P ops i) with
            | false => rfl
            | true => exact absurd (Nat.eq_of_beq_eq_true hb) hk
          rw [n1, n2, hstk] at h2
          simp only [Bool.false_or] at h2
          unfold sameAt at h2
          rw [hro] at h2
          cases hx : (opF P cx oi.op).f call ri.env ri.loc stk with
          | err n => rw [hx] at h2; cases h2
          | pan v s => rw [hx] at h2; cases h2
          | ok v s =>
            rw [hx] at h2
            rw [eqCV_eq _ _ h2, reads_keep hr hx]
    rw [hans] at hop
    refine hop _ _ fun ρ' v' w' ds' hle hv hw' hd' => ?_
    have := slots (ds' := ds') hle hv
    refine hK _ _ ⟨hsz', hdc', ρ', st', Ren.le_trans hle0 hle, hst', hw', ?_, hng, this.1, this.2⟩
    rw [put_defers]; exact hd'

/-- every order -/
theorem inv_any {ops : Array Oper} {recs : List Rec} {env env2 : List CV} {loc2 : Loc} {st st2 : St} {ρ0 : Ren} {Q : Exit → Act → World → Prop}
    (hcall : CallerSound sy G B w0 P call) (hE : edgesOk 0 ops.toList = true) (hP : pairsOk P ops (ancs ops.toList []) = true)
    (hch : Chain P cx call ops.toList ops.toList env .nil st recs env2 loc2 st2)
    (hstay : stayAll P cx call (ancs ops.toList []) (changersAt P 0 ops.toList) (statesOf P recs st2) 0 recs = true)
    (hQ : ∀ listed a w, Inv P sy G B w0 cx ops recs st2 env ρ0 listed a w → (∀ j, j < ops.size → listed.getD j false = true) → Q .normal a w) :
    ∀ (fuel : Nat) (listed : Array Bool) (a : Act) (w : World), Inv P sy G B w0 cx ops recs st2 env ρ0 listed a w → ((List.range ops.size).countP fun j => !listed.getD j false) ≤ fuel → wpAny P .any ops Q fuel listed a w := by
  -- nothing is ready: all are listed
  have full : ∀ (listed : Array Bool) (a : Act) (w : World), Inv P sy G B w0 cx ops recs st2 env ρ0 listed a w → Region.ready .any ops listed = [] → ∀ j, j < ops.size → listed.getD j false = true := by
    intro listed a w hinv hr j
    induction j using Nat.strongRecOn with
    | _ j ih =>
      intro hj
      cases hl : listed.getD j false with
      | true => rfl
      | false =>
        exfalso
        have hls : j < listed.size := by rw [hinv.size]; exact hj
        have : j ∈ Region.ready .any ops listed := mem_ready.2 ⟨by simp [hls] at hl ⊢; exact hl, ops[j], Array.getElem?_eq_getElem hj, fun e he hb => by
          have hlt := edgesOk_spec ops.toList 0 hE j ops[j] (by simp [hj]) e he hb
          rw [Nat.zero_add] at hlt
          exact ih e.on hlt (by omega)⟩
        rw [hr] at this
        cases this
  intro fuel
  induction fuel with
  | zero =>
    intro listed a w hinv hc
    have hall : ∀ j, j < ops.size → listed.getD j false = true := fun j hj => by
      cases hl : listed.getD j false with
      | true => rfl
      | false =>
        have : 0 < (List.range ops.size).countP fun j => !listed.getD j false := List.countP_pos_iff.2 ⟨j, by simpa using hj, by simp [hl]⟩
        omega
    refine ⟨?_, hQ listed a w hinv hall⟩
    cases hr : Region.ready .any ops listed with
    | nil => rfl
    | cons x xs =>
      exfalso
      have hx : x ∈ Region.ready .any ops listed := by rw [hr]; simp
      obtain ⟨h0, o, ho, _⟩ := mem_ready.1 hx
      have hlt := (Array.getElem?_eq_some_iff.1 ho).1
      have := hall x hlt
      have hls : x < listed.size := by rw [hinv.size]; exact hlt
      simp [hls] at h0 this
      rw [h0] at this; cases this
  | succ fuel ih =>
    intro listed a w hinv hc
    refine ⟨fun hr => hQ listed a w hinv (full listed a w hinv hr), fun i hi => ?_⟩
    refine inv_step hcall hE hP hch hstay hinv hi fun a' w' hinv' => ih _ a' w' hinv' ?_
    obtain ⟨h0, o, ho, _⟩ := mem_ready.1 hi
    have hlt := (Array.getElem?_eq_some_iff.1 ho).1
    have hls : i < listed.size := by rw [hinv.size]; exact hlt
    have hun : listed.getD i false = false := by simp [hls] at h0 ⊢; exact h0
    have : ((List.range ops.size).countP fun j => !(listed.setIfInBounds i true).getD j false) + 1 ≤ (List.range ops.size).countP fun j => !listed.getD j false := by
      have hmem : i ∈ List.range ops.size := by simpa using hlt
      obtain ⟨l1, l2, hl⟩ := List.append_of_mem hmem
      have hnd : (List.range ops.size).Nodup := List.nodup_range
      rw [hl] at hnd
      have hn1 : i ∉ l1 := fun h => by
        have := List.nodup_append.1 hnd
        exact this.2.2 i h i (by simp) rfl
      have hn2 : i ∉ l2 := fun h => by
        have := (List.nodup_append.1 hnd).2.1
        exact (List.nodup_cons.1 this).1 h
      rw [hl]
      simp only [List.countP_append, List.countP_cons]
      have e1 : l1.countP (fun j => !(listed.setIfInBounds i true).getD j false) = l1.countP fun j => !listed.getD j false := by
        apply List.countP_congr
        intro j hj
        rw [getD_set_ne false fun e => hn1 (by rw [e]; exact hj)]
      have e2 : l2.countP (fun j => !(listed.setIfInBounds i true).getD j false) = l2.countP fun j => !listed.getD j false := by
        apply List.countP_congr
        intro j hj
        rw [getD_set_ne false fun e => hn2 (by rw [e]; exact hj)]
      rw [e1, e2]
      have s1 : (listed.setIfInBounds i true).getD i false = true := by simp [hls]
      simp [s1, hun]
      omega
    omega

theorem draw_ok (hm : P.follows .mixedOrders = true) : DrawOk sy G B w0 P := by
  intro cx call hcall id ops env st e env2 st2 ρ a w hr hs hd hw
  have hr' : (drawF P cx ops).f call env st = .ok e env2 st2 := hr
  unfold drawF at hr'
  cases hst : drawStatic P ops with
  | false => rw [hst] at hr'; cases hr'
  | true =>
    rw [hst] at hr'
    simp only at hr'
    obtain ⟨recs, env1, loc1, st1, h1, hch⟩ := drawRun_chain _ _ _ _ _ _ _ _ hr'
    cases hstay : stayAll P cx call (ancs ops.toList []) (changersAt P 0 ops.toList) (statesOf P recs st1) 0 recs with
    | false => rw [hstay] at h1; cases h1
    | true =>
      rw [hstay] at h1
      simp only [cond_true] at h1
      cases h1
      unfold drawStatic at hst
      rw [Bool.and_eq_true, Bool.and_eq_true] at hst
      obtain ⟨hE, hP, hsel⟩ := hst
      refine wp_region_any hm ?_
      have hsz := (chain_len hch).1
      have h0 := chain_head hch
      refine inv_any (ρ0 := ρ) hcall hE hP hch hstay (fun listed a' w' hinv hall => ?_) ops.size _ a _ ⟨by simp, ?_, ρ, st, Ren.le_refl _, ?_, hw.drew, hd, hs.ng, hs.size, fun t => ?_⟩ ?_
      · obtain ⟨ρ', stk, hle, hk, hw', hd', hng, hsz', hslot⟩ := hinv.ex
        have hkd : kD P ops listed = recs.countP fun r => !reads P r.o.op := by
          have e1 : kD P ops listed = kI P ops ops.size := kD_of (Nat.le_refl _) fun c _ hc => ⟨fun _ => hc, fun _ => hall c hc⟩
          rw [e1]
          have recO : ∀ (j : Nat) (r : Rec), recs[j]? = some r → ops[j]? = some r.o := fun j r h => by simpa using (chain_len hch).2 j r h
          have : ∀ n, n ≤ recs.length → ((recs.take n).countP fun r => !reads P r.o.op) = kI P ops n := by
            intro n
            induction n with
            | zero => intro _; rfl
            | succ n ih =>
              intro hn
              have hn' : n < recs.length := by omega
              rw [List.take_add_one, List.getElem?_eq_getElem hn', kI_succ, ← ih (by omega)]
              simp only [Option.toList_some, List.countP_append, List.countP_singleton]
              have := recO n _ (List.getElem?_eq_getElem hn')
              simp [chg, this]
          have h2 := this recs.length (Nat.le_refl _)
          rw [List.take_length] at h2
          rw [h2, hsz]
          simp
        rw [hkd, chain_end hch] at hk
        cases hk
        refine ⟨ρ', hle, rfl, ⟨hng, hsz', fun t => ?_⟩, hd', hw'⟩
        have hlk := (chain_look hch t).2
        have hsl := hslot t
        rw [valF_congr recs (fun j => listed.getD j false) (fun _ => true) 0 t _ fun j r hj _ => by
          rw [Nat.zero_add]
          have hj' : j < recs.length := (List.getElem?_eq_some_iff.1 hj).1
          exact hall j (by rw [hsz] at hj'; simpa using hj')] at hsl
        have hdrop : LeV (look cx env2 .nil t) (look cx env2 loc1 t) := by
          unfold look
          split
          · exact .inr rfl
          · exact .inl rfl
        exact LeV.rel (hdrop.trans hlk) hsl
      · intro j o _ hl
        have := getD_false_lt hl
        simp at this
        simp [this] at hl
      · have : kD P ops (Array.replicate ops.size false) = 0 := by
          unfold kD
          apply List.countP_eq_zero.2
          intro c hc
          have : c < ops.size := by simpa using hc
          simp [this]
        rw [this]; exact h0
      · have : valF recs (fun j => (Array.replicate ops.size false).getD j false) 0 t (look cx env .nil t) = look cx env .nil t := by
          have key : ∀ (recs : List Rec) (i : Nat) (c : CV), valF recs (fun j => (Array.replicate ops.size false).getD j false) i t c = c := by
            intro recs
            induction recs with
            | nil => intros; rfl
            | cons x xs ihx =>
              intro i c
              rw [valF_cons, ihx]
              rw [if_neg]
              rintro ⟨h1, _⟩
              have := getD_false_lt h1
              simp at this
              simp [this] at h1
          exact key recs 0 _
        rw [this]
        exact hs.slot t
      · have : ((List.range ops.size).countP fun j => !(Array.replicate ops.size false).getD j false) ≤ (List.range ops.size).length := List.countP_le_length
        simpa using this
end
end Go.Proofs.YtonlahgagjejeaaGreatDoorX
