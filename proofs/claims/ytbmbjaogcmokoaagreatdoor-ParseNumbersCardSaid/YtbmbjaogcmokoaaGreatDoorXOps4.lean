/- Operations: what the executor says of one, the model does (4: integers, strings, comparisons). -/
import Derived.Test.YtbmbjaogcmokoaaGreatDoorXOps3
import Derived.Laws.StructEq
import Derived.WideLaws
import Derived.WalkSpells
namespace Go.Proofs.YtbmbjaogcmokoaaGreatDoorX
open Go Go.RowKit
set_option linter.unusedVariables false

section
variable {sy : Sy} {G : Nat} {B : Kp} {w0 : World} {P : Program} {ρ ρ' : Ren} {cx : Cx} {env : List CV} {loc : Loc} {a : Act} {st st' : St} {w w' : World} {o : Oper} {call : Caller}

theorem intV_eq (k : IntKind) (n : Int) (st : St) : intV k n st = .ok (.int k (k.wrap n)) st := by simp [intV, forceI_eq]

/-- an answer without a change of the state: an error, or the value that the model's operation gives -/
def Same (sy : Sy) (ρ : Ren) (P : Program) (st : St) (w : World) (s : Sem Value) (r : RV) : Prop :=
  (∃ k, r = .err k) ∨ ∃ v v', r = .ok v st ∧ VRel sy ρ v v' ∧ s.run P w = .ok v' w

theorem same_int {k : IntKind} {n : Int} {s : Sem Value} (h : s = pure (.int k (k.wrap n))) : Same sy ρ P st w s (intV k n st) :=
  .inr ⟨_, .int k (k.wrap n), intV_eq _ _ _, by simp only [VRel], by rw [h]; rfl⟩
theorem same_int' {k : IntKind} {n : Int} {s : Sem Value} (h : s = pure (.int k n)) : Same sy ρ P st w s (forceI (fun m => .ok (.int k m) st) n) :=
  .inr ⟨_, .int k n, forceI_eq _ _, by simp only [VRel], by rw [h]; rfl⟩
theorem same_bool {b : Bool} {s : Sem Value} (h : s = pure (.bool b)) : Same sy ρ P st w s (.ok (.bool b) st) :=
  .inr ⟨_, .bool b, rfl, by simp only [VRel], by rw [h]; rfl⟩

theorem binInt_same (op : BinOp) (t : TypeId) (k : IntKind) (x y : Int) : isShift op = false → Same sy ρ P st w (Go.binOp op t (.int k x) (.int k y)) ((binInt op).f k x y st) := by
  intro hns
  cases op <;> simp [isShift] at hns
  case add => exact same_int (by simp [Go.binOp, Op.intArith])
  case sub => exact same_int (by simp [Go.binOp, Op.intArith]; rfl)
  case mul => exact same_int (by simp [Go.binOp, Op.intArith])
  case quo =>
    unfold binInt
    simp only
    cases h : decide (y = 0) with
    | true => exact .inl ⟨_, rfl⟩
    | false =>
      have hy : y ≠ 0 := of_decide_eq_false h
      exact same_int (by simp [Go.binOp, Op.intDiv, hy])
  case rem =>
    unfold binInt
    simp only
    cases h : decide (y = 0) with
    | true => exact .inl ⟨_, rfl⟩
    | false =>
      have hy : y ≠ 0 := of_decide_eq_false h
      exact same_int' (by simp [Go.binOp, Op.intDiv, hy])
  case and => exact same_int (by simp [Go.binOp, Op.intBits])
  case or => exact same_int (by simp [Go.binOp, Op.intBits])
  case xor => exact same_int (by simp [Go.binOp, Op.intBits])
  case andNot => exact same_int (by simp [Go.binOp, Op.intBits])
  case eql => exact same_bool (by simp [Go.binOp, Op.intCmp])
  case neq => exact same_bool (by simp [Go.binOp, Op.intCmp])
  case lss => exact same_bool (by simp [Go.binOp, Op.intCmp])
  case leq => exact same_bool (by simp [Go.binOp, Op.intCmp])
  case gtr => exact same_bool (by simp [Go.binOp, Op.intCmp])
  case geq => exact same_bool (by simp [Go.binOp, Op.intCmp])

theorem shiftInt_same (op : BinOp) (t : TypeId) (k k' : IntKind) (x y : Int) : isShift op = true → Same sy ρ P st w (Go.binOp op t (.int k x) (.int k' y)) ((shiftInt op).f k x y st) := by
  intro hns
  have hpow : ∀ n : Nat, Int.ofNat (Nat.pow 2 n) = (2 : Int) ^ n := fun n => by
    show ((2 ^ n : Nat) : Int) = _
    simp
  cases op <;> simp [isShift] at hns
  case shl =>
    cases y with
    | negSucc m => exact .inl ⟨_, rfl⟩
    | ofNat n =>
      unfold shiftInt
      simp only [hpow]
      have hn : ¬ ((n : Int) < 0) := by omega
      exact same_int (by simp [Go.binOp, Op.shift, hn])
  case shr =>
    cases y with
    | negSucc m => exact .inl ⟨_, rfl⟩
    | ofNat n =>
      unfold shiftInt
      simp only [hpow]
      have hn : ¬ ((n : Int) < 0) := by omega
      exact same_int' (by simp [Go.binOp, Op.shift, hn])

theorem binStr_same (op : BinOp) (t : TypeId) (l n m k : Nat) : Same sy ρ P st w (Go.binOp op t (.string (bytesOf l n)) (.string (bytesOf m k))) ((binStr op).f l n m k st) := by
  cases op <;> try exact .inl ⟨_, rfl⟩
  case add =>
    unfold binStr
    simp only
    cases hc : Nat.ble (Nat.add l m) 4294967296 with
    | false => exact .inl ⟨_, rfl⟩
    | true =>
      have hle : l + m ≤ 4294967296 := by simpa [Nat.ble_eq] using hc
      refine .inr ⟨.str (Nat.add l m) (Nat.add (low l n) (Nat.shiftLeft k (Nat.mul 8 l))), _, by simp [strV, forceN_eq], (by simp only [VRel]; rfl), ?_⟩
      rw [← bytesOf_append]
      simp only [Go.binOp, Op.stringOp, bytesOf_size]
      rw [if_neg (by simp [IntKind.max, IntKind.signed, IntKind.bits]; omega)]
      rfl
  case eql =>
    unfold binStr
    simp only [eqStr_eq]
    exact same_bool (by simp [Go.binOp, Op.stringOp])
  case neq =>
    unfold binStr
    simp only [eqStr_eq]
    exact same_bool (by simp [Go.binOp, Op.stringOp])

theorem guardK_ok {kd n : Nat} {r r' : RV} (h : guardK kd n r = r') : (∃ k, r' = .err k) ∨ (kd = n ∧ r = r') := by
  unfold guardK at h
  cases hb : Nat.beq kd n with
  | false => rw [hb] at h; exact .inl ⟨_, h.symm⟩
  | true => rw [hb] at h; exact .inr ⟨Nat.eq_of_beq_eq_true hb, h⟩

theorem kindOf_spec {t n : Nat} (h : kindOf P t = n) : match n with
    | 1 => P.underlying t = some .bool
    | 2 => ∃ e m, P.underlying t = some (.pointer e) ∧ szOf P e = some m ∧ m ≠ 0
    | 3 => ∃ e, P.underlying t = some (.slice e)
    | 4 => ∃ k e, P.underlying t = some (.map k e)
    | 5 => ∃ x y z, P.underlying t = some (.func x y z)
    | 6 => ∃ x, P.underlying t = some (.interface x)
    | _ => True := by
  unfold kindOf at h
  split at h
  · rename_i d hu
    split at h
    · subst h; exact hu
    · rename_i e
      split at h
      · rename_i m hm
        cases hb : Nat.beq m 0 with
        | true => rw [hb] at h; subst h; trivial
        | false => rw [hb] at h; subst h; exact ⟨e, m, hu, hm, fun e => by subst e; cases hb⟩
      · subst h; trivial
    · subst h; exact ⟨_, hu⟩
    · subst h; exact ⟨_, _, hu⟩
    · subst h; exact ⟨_, _, _, hu⟩
    · subst h; exact ⟨_, hu⟩
    · subst h; trivial
  · subst h; trivial

def plainPair : Value → Value → Bool
  | .nilIface, .nilIface => false
  | .agg _, .agg _ => false
  | _, _ => true
theorem guard_plain (op : BinOp) (t : TypeId) (p q : Operand) (x' y' : Value) (hne : plainPair x' y' = true) :
    (eqGuard op t p q x' y').run P w = .ok () w := by
  have hM : ∀ {M : Sem Unit} (c : Bool), M.run P w = .ok () w → (if c = true then (pure () : Sem Unit) else M).run P w = .ok () w := by
    intro M c h
    cases c
    · exact h
    · rfl
  unfold eqGuard
  refine hM _ ?_
  cases x' <;> cases y' <;> first | (cases hne; done) | rfl

/-- '==' at whatever depth is left -/
theorem equal_at {t : Nat} {x y : Value} {b : Bool} (h : ∀ d, (Op.equalIn (d + 1) t x y).run P w = .ok b w) : (Op.equal t x y).run P w = .ok b w := h 9999

theorem eqCell_rel {k : Nat} {t : TypeId} {x y : CV} {x' y' : Value} {K : Bool → RV} {r : RV} (hk : fieldKind P t = k) (hx : VRel sy ρ x x') (hy : VRel sy ρ y y') (hr : eqCell k x y K = r) :
    (∃ k, r = .err k) ∨ ∃ b, K b = r ∧ ∀ d, (Op.equalIn (d + 1) t x' y').run P w = .ok b w := by
  unfold fieldKind at hk
  unfold eqCell at hr
  cases x <;> simp only at hr <;> try exact .inl ⟨_, hr.symm⟩
  all_goals
    cases y <;> simp only at hr <;> try exact .inl ⟨_, hr.symm⟩
  · rename_i a b
    cases hb : Nat.beq k 3 with
    | false => rw [hb] at hr; exact .inl ⟨_, hr.symm⟩
    | true =>
      rw [hb] at hr
      have h3 : k = 3 := Nat.eq_of_beq_eq_true hb
      subst h3
      simp only [VRel] at hx hy
      subst hx; subst hy
      refine .inr ⟨_, hr, fun d => ?_⟩
      split at hk
      · rename_i dd hu
        cases dd <;> simp at hk
        simp [Op.equalIn, run_under hu]
      · cases hk
  · rename_i i a j b
    cases hb : Nat.beq k 1 && decide (i = j) with
    | false => rw [hb] at hr; exact .inl ⟨_, hr.symm⟩
    | true =>
      rw [hb] at hr
      rw [Bool.and_eq_true] at hb
      have h3 : k = 1 := Nat.eq_of_beq_eq_true hb.1
      have hij : i = j := of_decide_eq_true hb.2
      subst h3
      subst hij
      simp only [VRel] at hx hy
      subst hx; subst hy
      refine .inr ⟨_, hr, fun d => ?_⟩
      split at hk
      · rename_i dd hu
        cases dd <;> simp at hk
        simp [Op.equalIn, run_under hu]
      · cases hk
  · rename_i l n m q
    cases hb : Nat.beq k 2 with
    | false => rw [hb] at hr; exact .inl ⟨_, hr.symm⟩
    | true =>
      rw [hb] at hr
      have h3 : k = 2 := Nat.eq_of_beq_eq_true hb
      subst h3
      simp only [VRel] at hx hy
      subst hx; subst hy
      refine .inr ⟨_, hr, fun d => ?_⟩
      split at hk
      · rename_i dd hu
        cases dd <;> simp at hk
        simp only [Op.equalIn, Sem.run_bind, run_under hu, Result.andThen, Sem.run_pure]
        rw [eqStr_eq, beq_toListBytes]
      · cases hk

theorem eqCells_rel {xs ys : List CV} {xs' ys' : List Value} {K : Bool → RV} {r : RV} (hx : VRels sy ρ xs xs') (hy : VRels sy ρ ys ys') : ∀ (fs : List Field) (l : List (Nat × Nat)), eqList P fs = some l → eqCells xs ys K l = r →
    (∃ k, r = .err k) ∨ ∃ b, K b = r ∧ ∀ d, (Op.eqFields (d + 1) (List.toArray xs') (List.toArray ys') fs).run P w = .ok b w
  | [], l, hl, hr => by
    cases hl
    exact .inr ⟨true, hr, fun d => rfl⟩
  | f :: fs, l, hl, hr => by
    unfold eqList at hl
    cases hb : f.name == "_" || Nat.beq (fieldKind P f.type) 0 with
    | true => rw [hb] at hl; cases hl
    | false =>
      rw [hb] at hl
      simp only [cond_false] at hl
      cases hl2 : eqList P fs with
      | none => rw [hl2] at hl; cases hl
      | some l2 =>
        rw [hl2] at hl
        cases hl
        rw [Bool.or_eq_false_iff] at hb
        have hname : f.name ≠ "_" := by simpa using hb.1
        have hkind : fieldKind P f.type ≠ 0 := fun h => by rw [h] at hb; exact absurd hb.2 (by decide)
        have hr' : (match xs[f.offset]? with
          | some a => match ys[f.offset]? with
            | some b => eqCell (fieldKind P f.type) a b fun t => bif t then eqCells xs ys K l2 else K false
            | none => .err 227
          | none => .err 228) = r := hr
        cases hxo : xs[f.offset]? with
        | none => rw [hxo] at hr'; exact .inl ⟨_, hr'.symm⟩
        | some a =>
          cases hyo : ys[f.offset]? with
          | none => rw [hxo, hyo] at hr'; exact .inl ⟨_, hr'.symm⟩
          | some b =>
            rw [hxo, hyo] at hr'
            obtain ⟨a', p1, p2⟩ := hx.get _ _ hxo
            obtain ⟨b', p3, p4⟩ := hy.get _ _ hyo
            have hagg : ∀ w : World, (isAgg f.type).run P w = .ok false w := fun w => by
              refine run_agg ?_ w
              unfold aggOf
              unfold fieldKind at hkind
              cases hu : P.underlying f.type with
              | none => rw [hu] at hkind; exact absurd rfl hkind
              | some dd => rw [hu] at hkind; cases dd <;> simp at hkind ⊢
            have hpart : ∀ {cs : List Value} {v : Value}, cs[f.offset]? = some v → (part f.type (List.toArray cs) f.offset).run P w = .ok v w := fun {cs v} h => by
              simp [part, hagg, h]
            rcases eqCell_rel (w := w) rfl p2 p4 hr' with ⟨k, h⟩ | ⟨t, ht, hrun⟩
            · exact .inl ⟨k, h⟩
            · have step : ∀ d, (Op.eqFields (d + 1) (List.toArray xs') (List.toArray ys') (f :: fs)).run P w = (if (!t) = true then (pure false : Sem Bool) else Op.eqFields (d + 1) (List.toArray xs') (List.toArray ys') fs).run P w := fun d => by
                have e : Op.eqFields (d + 1) (List.toArray xs') (List.toArray ys') (f :: fs) = if f.name ≠ "_" then (do
                    let a ← part f.type (List.toArray xs') f.offset
                    let b ← part f.type (List.toArray ys') f.offset
                    let r ← Op.equalIn (d + 1) f.type a b
                    if (!r) = true then pure false else Op.eqFields (d + 1) (List.toArray xs') (List.toArray ys') fs)
                  else Op.eqFields (d + 1) (List.toArray xs') (List.toArray ys') fs := rfl
                rw [e, if_pos hname]
                simp only [Sem.run_bind, hpart p1, hpart p3, hrun d, Result.andThen]
              cases t with
              | true =>
                rcases eqCells_rel hx hy fs l2 hl2 ht with ⟨k, h⟩ | ⟨b2, h1, h2⟩
                · exact .inl ⟨k, h⟩
                · exact .inr ⟨b2, h1, fun d => by rw [step d]; simpa using h2 d⟩
              | false => exact .inr ⟨false, ht, fun d => by rw [step d]; simp⟩

/-- rows of which no byte is a string's are other ones where they lie in other blocks -/
theorem plain_ne (hw : WRel sy G B w0 ρ st w) {b c : Nat} {i j : BI} (h : plainRows st b c = true) (hne : b ≠ c) (hi : ρ b = some i) (hj : ρ c = some j) (o p : Nat) : (sameAddr ⟨i.blk, o, none⟩ ⟨j.blk, p, none⟩).run P w = .ok false w := by
  have one : ∀ {b : Nat} {i : BI}, plainRow st b = true → ρ b = some i → (∃ ob, st.heap.get b = some ob ∧ owned ob = true) ∧ ∃ c e fz, w.heap[i.blk]? = some (.cells c e fz) ∧ ∀ k : Nat, ¬ (fz.1 ≤ k ∧ k < fz.2) := fun {b i} hb hi => by
    unfold plainRow at hb
    cases hg : st.heap.get b with
    | none => rw [hg] at hb; cases hb
    | some ob =>
      rw [hg] at hb
      cases ob <;> simp only at hb <;> try (cases hb; done)
      rename_i cells n es fr inf
      simp only [Bool.and_eq_true] at hb
      obtain ⟨h1, h2, h3⟩ := hb
      refine ⟨⟨_, rfl, rfl⟩, ?_⟩
      obtain ⟨i', c, e, fz, k1, _, ⟨_, _, k3, _, k4⟩, k5, _⟩ := hw.obj b _ hg
      rw [hi] at k1; cases k1
      refine ⟨c, e, fz, k5, fun k hk => ?_⟩
      have h0 : fr = 0 := Nat.eq_of_beq_eq_true h1
      have hz := k3 h3
      rcases k4 h2 with h | h <;> omega
  unfold plainRows at h
  rw [Bool.and_eq_true] at h
  obtain ⟨⟨ob, g1, g2⟩, c1, e1, fz1, m1, n1⟩ := one h.1 hi
  obtain ⟨⟨oc, g3, g4⟩, c2, e2, fz2, m2, n2⟩ := one h.2 hj
  have hblk : i.blk ≠ j.blk := fun e => hne (hw.inj b c ob oc i j g1 g2 g3 g4 hi hj e)
  have f1 : ∀ k, w.frozen? ⟨i.blk, k, none⟩ = false := fun k => by
    simp only [World.frozen?, m1]
    have := n1 k
    simpa using this
  have f2 : ∀ k, w.frozen? ⟨j.blk, k, none⟩ = false := fun k => by
    simp only [World.frozen?, m2]
    have := n2 k
    simpa using this
  have s1 : w.shape? i.blk = some (e1, c1.size) := by simp [World.shape?, m1]
  have s2 : w.shape? j.blk = some (e2, c2.size) := by simp [World.shape?, m2]
  have hb : (i.blk == j.blk) = false := by simpa using hblk
  simp [sameAddr, hb, frozen, Sem.run, f1, f2, noView, viewAt, shape, s1, s2, mayBeOne, stringish]

/-- the two operands of '==' -/
theorem equal_ok {t : Nat} {x y : CV} {x' y' : Value} {lit : Bool} {p q : Operand} (hw : WRel sy G B w0 ρ st w) (hl : lit = true → isLit p = true ∨ isLit q = true) {K : Bool → RV} {r : RV} (hx : VRel sy ρ x x') (hy : VRel sy ρ y y') (hr : eqNil (kindOf P t) lit (eqSpec P t) (plainRows st) x y K = r) :
    (∃ k, r = .err k) ∨ ∃ b, K b = r ∧ (Op.equal t x' y').run P w = .ok b w ∧ (∀ op : BinOp, (eqGuard op t p q x' y').run P w = .ok () w) ∧
      Go.binOp .eql t x' y' = (do pure (.bool (← Op.equal t x' y'))) ∧ Go.binOp .neq t x' y' = (do pure (.bool (!(← Op.equal t x' y')))) := by
  have key : ∀ {n : Nat} {b : Bool}, guardK (kindOf P t) n (K b) = r → (kindOf P t = n → (Op.equal t x' y').run P w = .ok b w) →
      (∀ op : BinOp, (eqGuard op t p q x' y').run P w = .ok () w) →
      Go.binOp .eql t x' y' = (do pure (.bool (← Op.equal t x' y'))) → Go.binOp .neq t x' y' = (do pure (.bool (!(← Op.equal t x' y')))) →
      (∃ k, r = .err k) ∨ ∃ b, K b = r ∧ (Op.equal t x' y').run P w = .ok b w ∧ (∀ op : BinOp, (eqGuard op t p q x' y').run P w = .ok () w) ∧
        Go.binOp .eql t x' y' = (do pure (.bool (← Op.equal t x' y'))) ∧ Go.binOp .neq t x' y' = (do pure (.bool (!(← Op.equal t x' y')))) := by
    intro n b h1 h2 h3 h4 h5
    rcases guardK_ok h1 with h | ⟨h, h'⟩
    · exact .inl h
    · exact .inr ⟨b, h', h2 h, h3, h4, h5⟩
  have guard0 : (∀ (op : BinOp), plainPair x' y' = true → (eqGuard op t p q x' y').run P w = .ok () w) :=
    fun op hne => guard_plain op t p q x' y' hne
  cases x <;> cases y <;> simp only [eqNil] at hr <;> try exact .inl ⟨_, hr.symm⟩
  case bool.bool a b =>
    simp only [VRel] at hx hy; subst hx; subst hy
    refine key hr (fun h => ?_) (fun op => guard0 op rfl) rfl rfl
    have hu := kindOf_spec h
    exact equal_at fun d => by simp [Op.equalIn, run_under hu]
  case ptr.ptr b o b' o' =>
    cases hb : Nat.beq b b' with
    | false =>
      rw [hb] at hr
      simp only [cond_false] at hr
      cases hpl : plainRows st b b' with
      | false => rw [hpl] at hr; exact .inl ⟨_, hr.symm⟩
      | true =>
        rw [hpl] at hr
        have hbb : b ≠ b' := fun e => by rw [e, show Nat.beq b' b' = true from Nat.beq_refl b'] at hb; cases hb
        simp only [VRel] at hx hy
        obtain ⟨i, hi, rfl⟩ := hx
        obtain ⟨i', hi', rfl⟩ := hy
        refine key hr (fun h => ?_) (fun op => guard0 op rfl) rfl rfl
        obtain ⟨e, m, hu, hm, hm0⟩ := kindOf_spec h
        refine equal_at fun d => ?_
        simp only [Op.equalIn, Sem.run_bind, run_under hu, Result.andThen, run_size hm]
        rw [if_pos hm0]
        exact plain_ne hw hpl hbb hi hi' _ _
    | true =>
      rw [hb] at hr
      have hbb : b = b' := Nat.eq_of_beq_eq_true hb
      subst hbb
      simp only [VRel] at hx hy
      obtain ⟨i, hi, rfl⟩ := hx
      obtain ⟨i', hi', rfl⟩ := hy
      rw [hi] at hi'; cases hi'
      refine key hr (fun h => ?_) (fun op => guard0 op rfl) rfl rfl
      obtain ⟨e, m, hu, hm, hm0⟩ := kindOf_spec h
      have e1 : ((⟨i.blk, o + i.sh, none⟩ : Addr) == ⟨i.blk, o' + i.sh, none⟩) = Nat.beq o o' := by
        apply Bool.eq_iff_iff.2
        simp [Nat.beq_eq]
      refine equal_at fun d => ?_
      simp only [Op.equalIn, Sem.run_bind, run_under hu, Result.andThen, run_size hm]
      rw [if_pos hm0]
      simp [sameAddr, e1]
  case ptr.nilp =>
    simp only [VRel] at hx hy; obtain ⟨i, hi, rfl⟩ := hx; subst hy
    refine key hr (fun h => ?_) (fun op => guard0 op rfl) rfl rfl
    obtain ⟨e, m, hu, _⟩ := kindOf_spec h
    exact equal_at fun d => by simp [Op.equalIn, run_under hu]
  case nilp.ptr =>
    simp only [VRel] at hx hy; obtain ⟨i, hi, rfl⟩ := hy; subst hx
    refine key hr (fun h => ?_) (fun op => guard0 op rfl) rfl rfl
    obtain ⟨e, m, hu, _⟩ := kindOf_spec h
    exact equal_at fun d => by simp [Op.equalIn, run_under hu]
  case nilp.nilp =>
    simp only [VRel] at hx hy; subst hx; subst hy
    refine key hr (fun h => ?_) (fun op => guard0 op rfl) rfl rfl
    obtain ⟨e, m, hu, _⟩ := kindOf_spec h
    exact equal_at fun d => by simp [Op.equalIn, run_under hu]
  case slice.nils =>
    simp only [VRel] at hx hy; obtain ⟨i, hi, rfl⟩ := hx; subst hy
    refine key hr (fun h => ?_) (fun op => guard0 op rfl) rfl rfl
    obtain ⟨e, hu⟩ := kindOf_spec h
    exact equal_at fun d => by simp [Op.equalIn, run_under hu]
  case nils.slice =>
    simp only [VRel] at hx hy; obtain ⟨i, hi, rfl⟩ := hy; subst hx
    refine key hr (fun h => ?_) (fun op => guard0 op rfl) rfl rfl
    obtain ⟨e, hu⟩ := kindOf_spec h
    exact equal_at fun d => by simp [Op.equalIn, run_under hu]
  case nils.nils =>
    simp only [VRel] at hx hy; subst hx; subst hy
    refine key hr (fun h => ?_) (fun op => guard0 op rfl) rfl rfl
    obtain ⟨e, hu⟩ := kindOf_spec h
    exact equal_at fun d => by simp [Op.equalIn, run_under hu]
  case map.nilm =>
    simp only [VRel] at hx hy; obtain ⟨i, hi, rfl⟩ := hx; subst hy
    refine key hr (fun h => ?_) (fun op => guard0 op rfl) rfl rfl
    obtain ⟨e, e', hu⟩ := kindOf_spec h
    exact equal_at fun d => by simp [Op.equalIn, run_under hu]
  case nilm.map =>
    simp only [VRel] at hx hy; obtain ⟨i, hi, rfl⟩ := hy; subst hx
    refine key hr (fun h => ?_) (fun op => guard0 op rfl) rfl rfl
    obtain ⟨e, e', hu⟩ := kindOf_spec h
    exact equal_at fun d => by simp [Op.equalIn, run_under hu]
  case nilm.nilm =>
    simp only [VRel] at hx hy; subst hx; subst hy
    refine key hr (fun h => ?_) (fun op => guard0 op rfl) rfl rfl
    obtain ⟨e, e', hu⟩ := kindOf_spec h
    exact equal_at fun d => by simp [Op.equalIn, run_under hu]
  case func.nilf =>
    simp only [VRel] at hx hy; obtain ⟨fi, ca, rfl, _⟩ := hx; subst hy
    refine key hr (fun h => ?_) (fun op => guard0 op rfl) rfl rfl
    obtain ⟨e, e', e'', hu⟩ := kindOf_spec h
    exact equal_at fun d => by simp [Op.equalIn, run_under hu]
  case nilf.func =>
    simp only [VRel] at hx hy; obtain ⟨fi, ca, rfl, _⟩ := hy; subst hx
    refine key hr (fun h => ?_) (fun op => guard0 op rfl) rfl rfl
    obtain ⟨e, e', e'', hu⟩ := kindOf_spec h
    exact equal_at fun d => by simp [Op.equalIn, run_under hu]
  case nilf.nilf =>
    simp only [VRel] at hx hy; subst hx; subst hy
    refine key hr (fun h => ?_) (fun op => guard0 op rfl) rfl rfl
    obtain ⟨e, e', e'', hu⟩ := kindOf_spec h
    exact equal_at fun d => by simp [Op.equalIn, run_under hu]
  case iface.nili =>
    simp only [VRel] at hx hy; obtain ⟨x', rfl, _⟩ := hx; subst hy
    refine key hr (fun h => ?_) (fun op => guard0 op rfl) rfl rfl
    obtain ⟨e, hu⟩ := kindOf_spec h
    exact equal_at fun d => by simp [Op.equalIn, run_under hu]
  case agg.agg xs ys =>
    cases hes : eqSpec P t with
    | none => rw [hes] at hr; exact .inl ⟨_, hr.symm⟩
    | some l =>
      rw [hes] at hr
      simp only at hr
      simp only [VRel] at hx hy
      obtain ⟨xs', rfl, hx⟩ := hx
      obtain ⟨ys', rfl, hy⟩ := hy
      unfold eqSpec at hes
      cases hu : P.underlying t with
      | none => rw [hu] at hes; cases hes
      | some dd =>
        rw [hu] at hes
        cases dd <;> simp only at hes <;> try (cases hes; done)
        rename_i fs
        cases hb : P.stoodInHeld t || P.eqGuardType P.depth t with
        | true => rw [hb] at hes; cases hes
        | false =>
          rw [hb] at hes
          simp only [cond_false] at hes
          rw [Bool.or_eq_false_iff] at hb
          rcases eqCells_rel (w := w) hx hy _ _ hes hr with ⟨k, h⟩ | ⟨b, h1, h2⟩
          · exact .inl ⟨k, h⟩
          · refine .inr ⟨b, h1, ?_, fun op => run_eqGuard_agg w op t p q _ _ hb.2, rfl, rfl⟩
            have hfo : P.fieldsOf t = fs := by unfold Program.fieldsOf; rw [hu]
            have := run_equalIn_struct w 9999 t (List.toArray xs') (List.toArray ys') (by rw [hfo]; exact hu) hb.1
            rw [hfo, h2 9998] at this
            exact this
  case nili.nili =>
    cases hl' : lit with
    | false => rw [hl'] at hr; exact .inl ⟨_, hr.symm⟩
    | true =>
      rw [hl'] at hr
      simp only [VRel] at hx hy; subst hx; subst hy
      refine key hr (fun h => ?_) (fun op => ?_) rfl rfl
      · obtain ⟨e, hu⟩ := kindOf_spec h
        exact equal_at fun d => by simp [Op.equalIn, run_under hu]
      · have hc : ∀ z : Operand, isLit z = true → ∃ v, z = .const v := fun z hz => by cases z <;> first | exact ⟨_, rfl⟩ | cases hz
        unfold eqGuard
        rcases hl hl' with h | h
        · obtain ⟨v, rfl⟩ := hc _ h
          cases op <;> rfl
        · obtain ⟨v, rfl⟩ := hc _ h
          cases op <;> cases p <;> rfl
  case nili.iface =>
    simp only [VRel] at hx hy; obtain ⟨x', rfl, _⟩ := hy; subst hx
    refine key hr (fun h => ?_) (fun op => guard0 op rfl) rfl rfl
    obtain ⟨e, hu⟩ := kindOf_spec h
    exact equal_at fun d => by simp [Op.equalIn, run_under hu]

theorem same_ok {t t2 : TypeId} {op : BinOp} {x y : Operand} {r : RV} (ho : o.op = .binOp op t x y t2) (hd : DRel sy ρ st.dfs a.defers) (hw : WRel sy G B w0 ρ st w)
    (hg : (eqGuard op t x y (a.eval x) (a.eval y)).run P w = .ok () w) (h : Same sy ρ P st w (Go.binOp op t (a.eval x) (a.eval y)) r) : OpRes sy G B w0 P ρ a o w r := by
  rcases h with ⟨k, rfl⟩ | ⟨v, v', rfl, hv, hrun⟩
  · exact trivial
  · exact pure_val (by simp [execOp, ho, hg, hrun]) hw hd hv

theorem binOther_ok {t t2 : TypeId} {op : BinOp} {x y : Operand} {u v : CV} (ho : o.op = .binOp op t x y t2) (hd : DRel sy ρ st.dfs a.defers) (hw : WRel sy G B w0 ρ st w)
    (hu : VRel sy ρ u (a.eval x)) (hv : VRel sy ρ v (a.eval y)) : OpRes sy G B w0 P ρ a o w ((binOther (kindOf P t) (isLit x || isLit y) (eqSpec P t) op).f u v st) := by
  cases op <;> try exact trivial
  · unfold binOther
    simp only
    generalize hr : eqNil (kindOf P t) (isLit x || isLit y) (eqSpec P t) (plainRows st) u v (fun b => RV.ok (.bool b) st) = r
    rcases equal_ok (w := w) (p := x) (q := y) hw (fun h => by simpa using h) hu hv hr with ⟨k, rfl⟩ | ⟨b, rfl, h1, h2, h3, h4⟩
    · exact trivial
    · refine same_ok ho hd hw (h2 _) (.inr ⟨_, .bool b, rfl, by simp only [VRel], ?_⟩)
      rw [h3]; simp [h1]
  · unfold binOther
    simp only
    generalize hr : eqNil (kindOf P t) (isLit x || isLit y) (eqSpec P t) (plainRows st) u v (fun b => RV.ok (.bool (!b)) st) = r
    rcases equal_ok (w := w) (p := x) (q := y) hw (fun h => by simpa using h) hu hv hr with ⟨k, rfl⟩ | ⟨b, rfl, h1, h2, h3, h4⟩
    · exact trivial
    · refine same_ok ho hd hw (h2 _) (.inr ⟨_, .bool (!b), rfl, by simp only [VRel], ?_⟩)
      rw [h4]; simp [h1]

theorem binOp_ok {t t2 : TypeId} {op : BinOp} {x y : Operand} (ho : o.op = .binOp op t x y t2) (hs : SR sy G cx ρ env loc a) (hd : DRel sy ρ st.dfs a.defers) (hw : WRel sy G B w0 ρ st w) :
    OpRes sy G B w0 P ρ a o w ((oBinOp (kindOf P t) (isLit x || isLit y) (eqSpec P t) op (ev cx x) (ev cx y)).f call env loc st) := by
  have hx := evRel hs hw x
  have hy := evRel hs hw y
  unfold oBinOp
  cases hsh : isShift op with
  | true =>
    simp only
    generalize (ev cx x).f env loc = u at *
    cases u <;> try exact trivial
    simp only
    generalize (ev cx y).f env loc = v at *
    cases v <;> try exact trivial
    simp only [VRel] at hx hy
    refine same_ok ho hd hw (guard_plain _ _ _ _ _ _ (by rw [hx, hy]; rfl)) ?_
    rw [hx, hy]
    exact shiftInt_same _ _ _ _ _ _ hsh
  | false =>
    simp only
    generalize (ev cx x).f env loc = u at *
    have other : OpRes sy G B w0 P ρ a o w ((binOther (kindOf P t) (isLit x || isLit y) (eqSpec P t) op).f u ((ev cx y).f env loc) st) := binOther_ok ho hd hw hx hy
    cases u <;> try exact other
    rotate_left
    rotate_left
    · rename_i b
      unfold binAny
      simp only [VRel] at hx
      obtain ⟨n, hxn, hb⟩ := hx
      simp only
      unfold symGtr
      cases op <;> try exact trivial
      simp only
      generalize (ev cx y).f env loc = v at *
      cases v <;> try exact trivial
      rename_i k m
      simp only
      cases hc : (decide (k = .i64) && decide (m = 67108864)) with
      | false => exact trivial
      | true =>
        rw [Bool.and_eq_true] at hc
        have e1 : k = .i64 := of_decide_eq_true hc.1
        have e2 : m = 67108864 := of_decide_eq_true hc.2
        subst e1; subst e2
        simp only [VRel] at hy
        have h := binInt_same (sy := sy) (ρ := ρ) (P := P) (st := st) (w := w) .gtr t .i64 (n : Int) 67108864 rfl
        have e3 : (binInt .gtr).f .i64 (n : Int) 67108864 st = .ok (.bool b) st := by
          show RV.ok (.bool (decide ((n : Int) > 67108864))) st = _
          rw [← hb]
          congr 3
          rw [eq_iff_iff]
          omega
        rw [e3] at h
        refine same_ok ho hd hw (guard_plain _ _ _ _ _ _ (by rw [hxn, hy]; rfl)) ?_
        rw [hxn, hy]
        exact h
    · rename_i r
      unfold binAny
      simp only [VRel] at hx
      obtain ⟨n, hxn, hb⟩ := hx
      simp only
      unfold symRem
      cases op <;> try exact trivial
      simp only
      generalize (ev cx y).f env loc = v at *
      cases v <;> try exact trivial
      rename_i k m
      simp only
      cases hc : (decide (k = .i64) && decide (m = 40)) with
      | false => exact trivial
      | true =>
        rw [Bool.and_eq_true] at hc
        have e1 : k = .i64 := of_decide_eq_true hc.1
        have e2 : m = 40 := of_decide_eq_true hc.2
        subst e1; subst e2
        simp only [VRel] at hy
        have h := binInt_same (sy := sy) (ρ := ρ) (P := P) (st := st) (w := w) .rem t .i64 n 40 rfl
        have e3 : (binInt .rem).f .i64 n 40 st = .ok (.int .i64 r) st := by
          show (match decide ((40 : Int) = 0) with | true => RV.err 46 | false => forceI (fun m => .ok (.int .i64 m) st) (Int.tmod n 40)) = _
          rw [show decide ((40 : Int) = 0) = false from rfl]
          simp only [forceI_eq, hb]
        rw [e3] at h
        refine same_ok ho hd hw (guard_plain _ _ _ _ _ _ (by rw [hxn, hy]; rfl)) ?_
        rw [hxn, hy]
        exact h
    · rename_i k n
      unfold binAny
      simp only
      generalize (ev cx y).f env loc = v at *
      cases v <;> try exact trivial
      rename_i k' m
      simp only
      cases hk : decide (k = k') with
      | false => exact trivial
      | true =>
        have : k = k' := of_decide_eq_true hk
        subst this
        simp only [VRel] at hx hy
        refine same_ok ho hd hw (guard_plain _ _ _ _ _ _ (by rw [hx, hy]; rfl)) ?_
        rw [hx, hy]
        exact binInt_same _ _ _ _ _ hsh
    · rename_i l n
      unfold binAny
      simp only
      generalize (ev cx y).f env loc = v at *
      cases v <;> try exact trivial
      simp only [VRel] at hx hy
      refine same_ok ho hd hw (guard_plain _ _ _ _ _ _ (by rw [hx, hy]; rfl)) ?_
      rw [hx, hy]
      exact binStr_same _ _ _ _ _ _
end
end Go.Proofs.YtbmbjaogcmokoaaGreatDoorX
