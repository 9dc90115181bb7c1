/- Operations: what the executor says of one, the model does (4: integers, strings, comparisons). Operations: what the executor says of one, the model does (5). Operations: what the executor says of one, the model does (6: slices of strings, len, append). Operations: append. Operations: conversions. -/
import Derived.Test.YtbmbjaogcmokoaaGreatDoorX2
import Derived.Laws.StructEq
import Derived.WideLaws
import Derived.WalkSpells
import Derived.Laws.RangeString
import Derived.Lib.ConvBytes
namespace Go.Proofs.YtbmbjaogcmokoaaGreatDoorX
open Go Go.RowKit
set_option linter.unusedVariables false

section
variable {sy : Sy} {G : Nat} {B : Kp} {w0 : World} {P : Program} {ρ ρ' : Ren} {cx : Cx} {env : List CV} {loc : Loc} {a : Act} {st st' : St} {w w' : World} {o : Oper} {call : Caller}

theorem intV_eq (k : IntKind) (n : Int) (st : St) : intV k n st = .ok (.int k (k.wrap n)) st := by simp [intV, forceI_eq]

/-- an answer without a change of the state: an error, or the value that the model's operation gives -/
def Same (sy : Sy) (ρ : Ren) (P : Program) (st : St) (w : World) (s : Sem Value) (r : RV) : Prop :=
  (∃ k, r = .err k) ∨ ∃ v v', r = .ok v st ∧ VRel sy ρ v v' ∧ s.run P w = .ok v' w

theorem same_int {k : IntKind} {n : Int} {s : Sem Value} (h : s = pure (.int k (k.wrap n))) : Same sy ρ P st w s (intV k n st) :=
  .inr ⟨_, .int k (k.wrap n), intV_eq _ _ _, by simp only [VRel], by rw [h]; rfl⟩
theorem same_int' {k : IntKind} {n : Int} {s : Sem Value} (h : s = pure (.int k n)) : Same sy ρ P st w s (forceI (fun m => .ok (.int k m) st) n) :=
  .inr ⟨_, .int k n, forceI_eq _ _, by simp only [VRel], by rw [h]; rfl⟩
theorem same_bool {b : Bool} {s : Sem Value} (h : s = pure (.bool b)) : Same sy ρ P st w s (.ok (.bool b) st) :=
  .inr ⟨_, .bool b, rfl, by simp only [VRel], by rw [h]; rfl⟩

theorem binInt_same (op : BinOp) (t : TypeId) (k : IntKind) (x y : Int) : isShift op = false → Same sy ρ P st w (Go.binOp op t (.int k x) (.int k y)) ((binInt op).f k x y st) := by
  intro hns
  cases op <;> simp [isShift] at hns
  case add => exact same_int (by simp [Go.binOp, Op.intArith])
  case sub => exact same_int (by simp [Go.binOp, Op.intArith]; rfl)
  case mul => exact same_int (by simp [Go.binOp, Op.intArith])
  case quo =>
    unfold binInt
    simp only
    cases h : decide (y = 0) with
    | true => exact .inl ⟨_, rfl⟩
    | false =>
      have hy : y ≠ 0 := of_decide_eq_false h
      exact same_int (by simp [Go.binOp, Op.intDiv, hy])
  case rem =>
    unfold binInt
    simp only
    cases h : decide (y = 0) with
    | true => exact .inl ⟨_, rfl⟩
    | false =>
      have hy : y ≠ 0 := of_decide_eq_false h
      exact same_int' (by simp [Go.binOp, Op.intDiv, hy])
  case and => exact same_int (by simp [Go.binOp, Op.intBits])
  case or => exact same_int (by simp [Go.binOp, Op.intBits])
  case xor => exact same_int (by simp [Go.binOp, Op.intBits])
  case andNot => exact same_int (by simp [Go.binOp, Op.intBits])
  case eql => exact same_bool (by simp [Go.binOp, Op.intCmp])
  case neq => exact same_bool (by simp [Go.binOp, Op.intCmp])
  case lss => exact same_bool (by simp [Go.binOp, Op.intCmp])
  case leq => exact same_bool (by simp [Go.binOp, Op.intCmp])
  case gtr => exact same_bool (by simp [Go.binOp, Op.intCmp])
  case geq => exact same_bool (by simp [Go.binOp, Op.intCmp])

theorem shiftInt_same (op : BinOp) (t : TypeId) (k k' : IntKind) (x y : Int) : isShift op = true → Same sy ρ P st w (Go.binOp op t (.int k x) (.int k' y)) ((shiftInt op).f k x y st) := by
  intro hns
  have hpow : ∀ n : Nat, Int.ofNat (Nat.pow 2 n) = (2 : Int) ^ n := fun n => by
    show ((2 ^ n : Nat) : Int) = _
    simp
  cases op <;> simp [isShift] at hns
  case shl =>
    cases y with
    | negSucc m => exact .inl ⟨_, rfl⟩
    | ofNat n =>
      unfold shiftInt
      simp only [hpow]
      have hn : ¬ ((n : Int) < 0) := by omega
      exact same_int (by simp [Go.binOp, Op.shift, hn])
  case shr =>
    cases y with
    | negSucc m => exact .inl ⟨_, rfl⟩
    | ofNat n =>
      unfold shiftInt
      simp only [hpow]
      have hn : ¬ ((n : Int) < 0) := by omega
      exact same_int' (by simp [Go.binOp, Op.shift, hn])

theorem binStr_same (op : BinOp) (t : TypeId) (l n m k : Nat) : Same sy ρ P st w (Go.binOp op t (.string (bytesOf l n)) (.string (bytesOf m k))) ((binStr op).f l n m k st) := by
  cases op <;> try exact .inl ⟨_, rfl⟩
  case add =>
    unfold binStr
    simp only
    cases hc : Nat.ble (Nat.add l m) 4294967296 with
    | false => exact .inl ⟨_, rfl⟩
    | true =>
      have hle : l + m ≤ 4294967296 := by simpa [Nat.ble_eq] using hc
      refine .inr ⟨.str (Nat.add l m) (Nat.add (low l n) (Nat.shiftLeft k (Nat.mul 8 l))), _, by simp [strV, forceN_eq], (by simp only [VRel]; rfl), ?_⟩
      rw [← bytesOf_append]
      simp only [Go.binOp, Op.stringOp, bytesOf_size]
      rw [if_neg (by simp [IntKind.max, IntKind.signed, IntKind.bits]; omega)]
      rfl
  case eql =>
    unfold binStr
    simp only [eqStr_eq]
    exact same_bool (by simp [Go.binOp, Op.stringOp])
  case neq =>
    unfold binStr
    simp only [eqStr_eq]
    exact same_bool (by simp [Go.binOp, Op.stringOp])

theorem guardK_ok {kd n : Nat} {r r' : RV} (h : guardK kd n r = r') : (∃ k, r' = .err k) ∨ (kd = n ∧ r = r') := by
  unfold guardK at h
  cases hb : Nat.beq kd n with
  | false => rw [hb] at h; exact .inl ⟨_, h.symm⟩
  | true => rw [hb] at h; exact .inr ⟨Nat.eq_of_beq_eq_true hb, h⟩

theorem kindOf_spec {t n : Nat} (h : kindOf P t = n) : match n with
    | 1 => P.underlying t = some .bool
    | 2 => ∃ e m, P.underlying t = some (.pointer e) ∧ szOf P e = some m ∧ m ≠ 0
    | 3 => ∃ e, P.underlying t = some (.slice e)
    | 4 => ∃ k e, P.underlying t = some (.map k e)
    | 5 => ∃ x y z, P.underlying t = some (.func x y z)
    | 6 => ∃ x, P.underlying t = some (.interface x)
    | _ => True := by
  unfold kindOf at h
  split at h
  · rename_i d hu
    split at h
    · subst h; exact hu
    · rename_i e
      split at h
      · rename_i m hm
        cases hb : Nat.beq m 0 with
        | true => rw [hb] at h; subst h; trivial
        | false => rw [hb] at h; subst h; exact ⟨e, m, hu, hm, fun e => by subst e; cases hb⟩
      · subst h; trivial
    · subst h; exact ⟨_, hu⟩
    · subst h; exact ⟨_, _, hu⟩
    · subst h; exact ⟨_, _, _, hu⟩
    · subst h; exact ⟨_, hu⟩
    · subst h; trivial
  · subst h; trivial

def plainPair : Value → Value → Bool
  | .nilIface, .nilIface => false
  | .agg _, .agg _ => false
  | _, _ => true
theorem guard_plain (op : BinOp) (t : TypeId) (p q : Operand) (x' y' : Value) (hne : plainPair x' y' = true) :
    (eqGuard op t p q x' y').run P w = .ok () w := by
  have hM : ∀ {M : Sem Unit} (c : Bool), M.run P w = .ok () w → (if c = true then (pure () : Sem Unit) else M).run P w = .ok () w := by
    intro M c h
    cases c
    · exact h
    · rfl
  unfold eqGuard
  refine hM _ ?_
  cases x' <;> cases y' <;> first | (cases hne; done) | rfl

/-- '==' at whatever depth is left -/
theorem equal_at {t : Nat} {x y : Value} {b : Bool} (h : ∀ d, (Op.equalIn (d + 1) t x y).run P w = .ok b w) : (Op.equal t x y).run P w = .ok b w := h 9999

theorem eqCell_rel {k : Nat} {t : TypeId} {x y : CV} {x' y' : Value} {K : Bool → RV} {r : RV} (hk : fieldKind P t = k) (hx : VRel sy ρ x x') (hy : VRel sy ρ y y') (hr : eqCell k x y K = r) :
    (∃ k, r = .err k) ∨ ∃ b, K b = r ∧ ∀ d, (Op.equalIn (d + 1) t x' y').run P w = .ok b w := by
  unfold fieldKind at hk
  unfold eqCell at hr
  cases x <;> simp only at hr <;> try exact .inl ⟨_, hr.symm⟩
  all_goals
    cases y <;> simp only at hr <;> try exact .inl ⟨_, hr.symm⟩
  · rename_i a b
    cases hb : Nat.beq k 3 with
    | false => rw [hb] at hr; exact .inl ⟨_, hr.symm⟩
    | true =>
      rw [hb] at hr
      have h3 : k = 3 := Nat.eq_of_beq_eq_true hb
      subst h3
      simp only [VRel] at hx hy
      subst hx; subst hy
      refine .inr ⟨_, hr, fun d => ?_⟩
      split at hk
      · rename_i dd hu
        cases dd <;> simp at hk
        simp [Op.equalIn, run_under hu]
      · cases hk
  · rename_i i a j b
    cases hb : Nat.beq k 1 && decide (i = j) with
    | false => rw [hb] at hr; exact .inl ⟨_, hr.symm⟩
    | true =>
      rw [hb] at hr
      rw [Bool.and_eq_true] at hb
      have h3 : k = 1 := Nat.eq_of_beq_eq_true hb.1
      have hij : i = j := of_decide_eq_true hb.2
      subst h3
      subst hij
      simp only [VRel] at hx hy
      subst hx; subst hy
      refine .inr ⟨_, hr, fun d => ?_⟩
      split at hk
      · rename_i dd hu
        cases dd <;> simp at hk
        simp [Op.equalIn, run_under hu]
      · cases hk
  · rename_i l n m q
    cases hb : Nat.beq k 2 with
    | false => rw [hb] at hr; exact .inl ⟨_, hr.symm⟩
    | true =>
      rw [hb] at hr
      have h3 : k = 2 := Nat.eq_of_beq_eq_true hb
      subst h3
      simp only [VRel] at hx hy
      subst hx; subst hy
      refine .inr ⟨_, hr, fun d => ?_⟩
      split at hk
      · rename_i dd hu
        cases dd <;> simp at hk
        simp only [Op.equalIn, Sem.run_bind, run_under hu, Result.andThen, Sem.run_pure]
        rw [eqStr_eq, beq_toListBytes]
      · cases hk

theorem eqCells_rel {xs ys : List CV} {xs' ys' : List Value} {K : Bool → RV} {r : RV} (hx : VRels sy ρ xs xs') (hy : VRels sy ρ ys ys') : ∀ (fs : List Field) (l : List (Nat × Nat)), eqList P fs = some l → eqCells xs ys K l = r →
    (∃ k, r = .err k) ∨ ∃ b, K b = r ∧ ∀ d, (Op.eqFields (d + 1) (List.toArray xs') (List.toArray ys') fs).run P w = .ok b w
  | [], l, hl, hr => by
    cases hl
    exact .inr ⟨true, hr, fun d => rfl⟩
  | f :: fs, l, hl, hr => by
    unfold eqList at hl
    cases hb : f.name == "_" || Nat.beq (fieldKind P f.type) 0 with
    | true => rw [hb] at hl; cases hl
    | false =>
      rw [hb] at hl
      simp only [cond_false] at hl
      cases hl2 : eqList P fs with
      | none => rw [hl2] at hl; cases hl
      | some l2 =>
        rw [hl2] at hl
        cases hl
        rw [Bool.or_eq_false_iff] at hb
        have hname : f.name ≠ "_" := by simpa using hb.1
        have hkind : fieldKind P f.type ≠ 0 := fun h => by rw [h] at hb; exact absurd hb.2 (by decide)
        have hr' : (match xs[f.offset]? with
          | some a => match ys[f.offset]? with
            | some b => eqCell (fieldKind P f.type) a b fun t => bif t then eqCells xs ys K l2 else K false
            | none => .err 227
          | none => .err 228) = r := hr
        cases hxo : xs[f.offset]? with
        | none => rw [hxo] at hr'; exact .inl ⟨_, hr'.symm⟩
        | some a =>
          cases hyo : ys[f.offset]? with
          | none => rw [hxo, hyo] at hr'; exact .inl ⟨_, hr'.symm⟩
          | some b =>
            rw [hxo, hyo] at hr'
            obtain ⟨a', p1, p2⟩ := hx.get _ _ hxo
            obtain ⟨b', p3, p4⟩ := hy.get _ _ hyo
            have hagg : ∀ w : World, (isAgg f.type).run P w = .ok false w := fun w => by
              refine run_agg ?_ w
              unfold aggOf
              unfold fieldKind at hkind
              cases hu : P.underlying f.type with
              | none => rw [hu] at hkind; exact absurd rfl hkind
              | some dd => rw [hu] at hkind; cases dd <;> simp at hkind ⊢
            have hpart : ∀ {cs : List Value} {v : Value}, cs[f.offset]? = some v → (part f.type (List.toArray cs) f.offset).run P w = .ok v w := fun {cs v} h => by
              simp [part, hagg, h]
            rcases eqCell_rel (w := w) rfl p2 p4 hr' with ⟨k, h⟩ | ⟨t, ht, hrun⟩
            · exact .inl ⟨k, h⟩
            · have step : ∀ d, (Op.eqFields (d + 1) (List.toArray xs') (List.toArray ys') (f :: fs)).run P w = (if (!t) = true then (pure false : Sem Bool) else Op.eqFields (d + 1) (List.toArray xs') (List.toArray ys') fs).run P w := fun d => by
                have e : Op.eqFields (d + 1) (List.toArray xs') (List.toArray ys') (f :: fs) = if f.name ≠ "_" then (do
                    let a ← part f.type (List.toArray xs') f.offset
                    let b ← part f.type (List.toArray ys') f.offset
                    let r ← Op.equalIn (d + 1) f.type a b
                    if (!r) = true then pure false else Op.eqFields (d + 1) (List.toArray xs') (List.toArray ys') fs)
                  else Op.eqFields (d + 1) (List.toArray xs') (List.toArray ys') fs := rfl
                rw [e, if_pos hname]
                simp only [Sem.run_bind, hpart p1, hpart p3, hrun d, Result.andThen]
              cases t with
              | true =>
                rcases eqCells_rel hx hy fs l2 hl2 ht with ⟨k, h⟩ | ⟨b2, h1, h2⟩
                · exact .inl ⟨k, h⟩
                · exact .inr ⟨b2, h1, fun d => by rw [step d]; simpa using h2 d⟩
              | false => exact .inr ⟨false, ht, fun d => by rw [step d]; simp⟩

/-- rows of which no byte is a string's are other ones where they lie in other blocks -/
theorem plain_ne (hw : WRel sy G B w0 ρ st w) {b c : Nat} {i j : BI} (h : plainRows st b c = true) (hne : b ≠ c) (hi : ρ b = some i) (hj : ρ c = some j) (o p : Nat) : (sameAddr ⟨i.blk, o, none⟩ ⟨j.blk, p, none⟩).run P w = .ok false w := by
  have one : ∀ {b : Nat} {i : BI}, plainRow st b = true → ρ b = some i → (∃ ob, st.heap.get b = some ob ∧ owned ob = true) ∧ ∃ c e fz, w.heap[i.blk]? = some (.cells c e fz) ∧ ∀ k : Nat, ¬ (fz.1 ≤ k ∧ k < fz.2) := fun {b i} hb hi => by
    unfold plainRow at hb
    cases hg : st.heap.get b with
    | none => rw [hg] at hb; cases hb
    | some ob =>
      rw [hg] at hb
      cases ob <;> simp only at hb <;> try (cases hb; done)
      rename_i cells n es fr inf
      simp only [Bool.and_eq_true] at hb
      obtain ⟨h1, h2, h3⟩ := hb
      refine ⟨⟨_, rfl, rfl⟩, ?_⟩
      obtain ⟨i', c, e, fz, k1, _, ⟨_, _, k3, _, k4⟩, k5, _⟩ := hw.obj b _ hg
      rw [hi] at k1; cases k1
      refine ⟨c, e, fz, k5, fun k hk => ?_⟩
      have h0 : fr = 0 := Nat.eq_of_beq_eq_true h1
      have hz := k3 h3
      rcases k4 h2 with h | h <;> omega
  unfold plainRows at h
  rw [Bool.and_eq_true] at h
  obtain ⟨⟨ob, g1, g2⟩, c1, e1, fz1, m1, n1⟩ := one h.1 hi
  obtain ⟨⟨oc, g3, g4⟩, c2, e2, fz2, m2, n2⟩ := one h.2 hj
  have hblk : i.blk ≠ j.blk := fun e => hne (hw.inj b c ob oc i j g1 g2 g3 g4 hi hj e)
  have f1 : ∀ k, w.frozen? ⟨i.blk, k, none⟩ = false := fun k => by
    simp only [World.frozen?, m1]
    have := n1 k
    simpa using this
  have f2 : ∀ k, w.frozen? ⟨j.blk, k, none⟩ = false := fun k => by
    simp only [World.frozen?, m2]
    have := n2 k
    simpa using this
  have s1 : w.shape? i.blk = some (e1, c1.size) := by simp [World.shape?, m1]
  have s2 : w.shape? j.blk = some (e2, c2.size) := by simp [World.shape?, m2]
  have hb : (i.blk == j.blk) = false := by simpa using hblk
  simp [sameAddr, hb, frozen, Sem.run, f1, f2, noView, viewAt, shape, s1, s2, mayBeOne, stringish]

/-- the two operands of '==' -/
theorem equal_ok {t : Nat} {x y : CV} {x' y' : Value} {lit : Bool} {p q : Operand} (hw : WRel sy G B w0 ρ st w) (hl : lit = true → isLit p = true ∨ isLit q = true) {K : Bool → RV} {r : RV} (hx : VRel sy ρ x x') (hy : VRel sy ρ y y') (hr : eqNil (kindOf P t) lit (eqSpec P t) (plainRows st) x y K = r) :
    (∃ k, r = .err k) ∨ ∃ b, K b = r ∧ (Op.equal t x' y').run P w = .ok b w ∧ (∀ op : BinOp, (eqGuard op t p q x' y').run P w = .ok () w) ∧
      Go.binOp .eql t x' y' = (do pure (.bool (← Op.equal t x' y'))) ∧ Go.binOp .neq t x' y' = (do pure (.bool (!(← Op.equal t x' y')))) := by
  have key : ∀ {n : Nat} {b : Bool}, guardK (kindOf P t) n (K b) = r → (kindOf P t = n → (Op.equal t x' y').run P w = .ok b w) →
      (∀ op : BinOp, (eqGuard op t p q x' y').run P w = .ok () w) →
      Go.binOp .eql t x' y' = (do pure (.bool (← Op.equal t x' y'))) → Go.binOp .neq t x' y' = (do pure (.bool (!(← Op.equal t x' y')))) →
      (∃ k, r = .err k) ∨ ∃ b, K b = r ∧ (Op.equal t x' y').run P w = .ok b w ∧ (∀ op : BinOp, (eqGuard op t p q x' y').run P w = .ok () w) ∧
        Go.binOp .eql t x' y' = (do pure (.bool (← Op.equal t x' y'))) ∧ Go.binOp .neq t x' y' = (do pure (.bool (!(← Op.equal t x' y')))) := by
    intro n b h1 h2 h3 h4 h5
    rcases guardK_ok h1 with h | ⟨h, h'⟩
    · exact .inl h
    · exact .inr ⟨b, h', h2 h, h3, h4, h5⟩
  have guard0 : (∀ (op : BinOp), plainPair x' y' = true → (eqGuard op t p q x' y').run P w = .ok () w) :=
    fun op hne => guard_plain op t p q x' y' hne
  cases x <;> cases y <;> simp only [eqNil] at hr <;> try exact .inl ⟨_, hr.symm⟩
  case bool.bool a b =>
    simp only [VRel] at hx hy; subst hx; subst hy
    refine key hr (fun h => ?_) (fun op => guard0 op rfl) rfl rfl
    have hu := kindOf_spec h
    exact equal_at fun d => by simp [Op.equalIn, run_under hu]
  case ptr.ptr b o b' o' =>
    cases hb : Nat.beq b b' with
    | false =>
      rw [hb] at hr
      simp only [cond_false] at hr
      cases hpl : plainRows st b b' with
      | false => rw [hpl] at hr; exact .inl ⟨_, hr.symm⟩
      | true =>
        rw [hpl] at hr
        have hbb : b ≠ b' := fun e => by rw [e, show Nat.beq b' b' = true from Nat.beq_refl b'] at hb; cases hb
        simp only [VRel] at hx hy
        obtain ⟨i, hi, rfl⟩ := hx
        obtain ⟨i', hi', rfl⟩ := hy
        refine key hr (fun h => ?_) (fun op => guard0 op rfl) rfl rfl
        obtain ⟨e, m, hu, hm, hm0⟩ := kindOf_spec h
        refine equal_at fun d => ?_
        simp only [Op.equalIn, Sem.run_bind, run_under hu, Result.andThen, run_size hm]
        rw [if_pos hm0]
        exact plain_ne hw hpl hbb hi hi' _ _
    | true =>
      rw [hb] at hr
      have hbb : b = b' := Nat.eq_of_beq_eq_true hb
      subst hbb
      simp only [VRel] at hx hy
      obtain ⟨i, hi, rfl⟩ := hx
      obtain ⟨i', hi', rfl⟩ := hy
      rw [hi] at hi'; cases hi'
      refine key hr (fun h => ?_) (fun op => guard0 op rfl) rfl rfl
      obtain ⟨e, m, hu, hm, hm0⟩ := kindOf_spec h
      have e1 : ((⟨i.blk, o + i.sh, none⟩ : Addr) == ⟨i.blk, o' + i.sh, none⟩) = Nat.beq o o' := by
        apply Bool.eq_iff_iff.2
        simp [Nat.beq_eq]
      refine equal_at fun d => ?_
      simp only [Op.equalIn, Sem.run_bind, run_under hu, Result.andThen, run_size hm]
      rw [if_pos hm0]
      simp [sameAddr, e1]
  case ptr.nilp =>
    simp only [VRel] at hx hy; obtain ⟨i, hi, rfl⟩ := hx; subst hy
    refine key hr (fun h => ?_) (fun op => guard0 op rfl) rfl rfl
    obtain ⟨e, m, hu, _⟩ := kindOf_spec h
    exact equal_at fun d => by simp [Op.equalIn, run_under hu]
  case nilp.ptr =>
    simp only [VRel] at hx hy; obtain ⟨i, hi, rfl⟩ := hy; subst hx
    refine key hr (fun h => ?_) (fun op => guard0 op rfl) rfl rfl
    obtain ⟨e, m, hu, _⟩ := kindOf_spec h
    exact equal_at fun d => by simp [Op.equalIn, run_under hu]
  case nilp.nilp =>
    simp only [VRel] at hx hy; subst hx; subst hy
    refine key hr (fun h => ?_) (fun op => guard0 op rfl) rfl rfl
    obtain ⟨e, m, hu, _⟩ := kindOf_spec h
    exact equal_at fun d => by simp [Op.equalIn, run_under hu]
  case slice.nils =>
    simp only [VRel] at hx hy; obtain ⟨i, hi, rfl⟩ := hx; subst hy
    refine key hr (fun h => ?_) (fun op => guard0 op rfl) rfl rfl
    obtain ⟨e, hu⟩ := kindOf_spec h
    exact equal_at fun d => by simp [Op.equalIn, run_under hu]
  case nils.slice =>
    simp only [VRel] at hx hy; obtain ⟨i, hi, rfl⟩ := hy; subst hx
    refine key hr (fun h => ?_) (fun op => guard0 op rfl) rfl rfl
    obtain ⟨e, hu⟩ := kindOf_spec h
    exact equal_at fun d => by simp [Op.equalIn, run_under hu]
  case nils.nils =>
    simp only [VRel] at hx hy; subst hx; subst hy
    refine key hr (fun h => ?_) (fun op => guard0 op rfl) rfl rfl
    obtain ⟨e, hu⟩ := kindOf_spec h
    exact equal_at fun d => by simp [Op.equalIn, run_under hu]
  case map.nilm =>
    simp only [VRel] at hx hy; obtain ⟨i, hi, rfl⟩ := hx; subst hy
    refine key hr (fun h => ?_) (fun op => guard0 op rfl) rfl rfl
    obtain ⟨e, e', hu⟩ := kindOf_spec h
    exact equal_at fun d => by simp [Op.equalIn, run_under hu]
  case nilm.map =>
    simp only [VRel] at hx hy; obtain ⟨i, hi, rfl⟩ := hy; subst hx
    refine key hr (fun h => ?_) (fun op => guard0 op rfl) rfl rfl
    obtain ⟨e, e', hu⟩ := kindOf_spec h
    exact equal_at fun d => by simp [Op.equalIn, run_under hu]
  case nilm.nilm =>
    simp only [VRel] at hx hy; subst hx; subst hy
    refine key hr (fun h => ?_) (fun op => guard0 op rfl) rfl rfl
    obtain ⟨e, e', hu⟩ := kindOf_spec h
    exact equal_at fun d => by simp [Op.equalIn, run_under hu]
  case func.nilf =>
    simp only [VRel] at hx hy; obtain ⟨fi, ca, rfl, _⟩ := hx; subst hy
    refine key hr (fun h => ?_) (fun op => guard0 op rfl) rfl rfl
    obtain ⟨e, e', e'', hu⟩ := kindOf_spec h
    exact equal_at fun d => by simp [Op.equalIn, run_under hu]
  case nilf.func =>
    simp only [VRel] at hx hy; obtain ⟨fi, ca, rfl, _⟩ := hy; subst hx
    refine key hr (fun h => ?_) (fun op => guard0 op rfl) rfl rfl
    obtain ⟨e, e', e'', hu⟩ := kindOf_spec h
    exact equal_at fun d => by simp [Op.equalIn, run_under hu]
  case nilf.nilf =>
    simp only [VRel] at hx hy; subst hx; subst hy
    refine key hr (fun h => ?_) (fun op => guard0 op rfl) rfl rfl
    obtain ⟨e, e', e'', hu⟩ := kindOf_spec h
    exact equal_at fun d => by simp [Op.equalIn, run_under hu]
  case iface.nili =>
    simp only [VRel] at hx hy; obtain ⟨x', rfl, _⟩ := hx; subst hy
    refine key hr (fun h => ?_) (fun op => guard0 op rfl) rfl rfl
    obtain ⟨e, hu⟩ := kindOf_spec h
    exact equal_at fun d => by simp [Op.equalIn, run_under hu]
  case agg.agg xs ys =>
    cases hes : eqSpec P t with
    | none => rw [hes] at hr; exact .inl ⟨_, hr.symm⟩
    | some l =>
      rw [hes] at hr
      simp only at hr
      simp only [VRel] at hx hy
      obtain ⟨xs', rfl, hx⟩ := hx
      obtain ⟨ys', rfl, hy⟩ := hy
      unfold eqSpec at hes
      cases hu : P.underlying t with
      | none => rw [hu] at hes; cases hes
      | some dd =>
        rw [hu] at hes
        cases dd <;> simp only at hes <;> try (cases hes; done)
        rename_i fs
        cases hb : P.stoodInHeld t || P.eqGuardType P.depth t with
        | true => rw [hb] at hes; cases hes
        | false =>
          rw [hb] at hes
          simp only [cond_false] at hes
          rw [Bool.or_eq_false_iff] at hb
          rcases eqCells_rel (w := w) hx hy _ _ hes hr with ⟨k, h⟩ | ⟨b, h1, h2⟩
          · exact .inl ⟨k, h⟩
          · refine .inr ⟨b, h1, ?_, fun op => run_eqGuard_agg w op t p q _ _ hb.2, rfl, rfl⟩
            have hfo : P.fieldsOf t = fs := by unfold Program.fieldsOf; rw [hu]
            have := run_equalIn_struct w 9999 t (List.toArray xs') (List.toArray ys') (by rw [hfo]; exact hu) hb.1
            rw [hfo, h2 9998] at this
            exact this
  case nili.nili =>
    cases hl' : lit with
    | false => rw [hl'] at hr; exact .inl ⟨_, hr.symm⟩
    | true =>
      rw [hl'] at hr
      simp only [VRel] at hx hy; subst hx; subst hy
      refine key hr (fun h => ?_) (fun op => ?_) rfl rfl
      · obtain ⟨e, hu⟩ := kindOf_spec h
        exact equal_at fun d => by simp [Op.equalIn, run_under hu]
      · have hc : ∀ z : Operand, isLit z = true → ∃ v, z = .const v := fun z hz => by cases z <;> first | exact ⟨_, rfl⟩ | cases hz
        unfold eqGuard
        rcases hl hl' with h | h
        · obtain ⟨v, rfl⟩ := hc _ h
          cases op <;> rfl
        · obtain ⟨v, rfl⟩ := hc _ h
          cases op <;> cases p <;> rfl
  case nili.iface =>
    simp only [VRel] at hx hy; obtain ⟨x', rfl, _⟩ := hy; subst hx
    refine key hr (fun h => ?_) (fun op => guard0 op rfl) rfl rfl
    obtain ⟨e, hu⟩ := kindOf_spec h
    exact equal_at fun d => by simp [Op.equalIn, run_under hu]

theorem same_ok {t t2 : TypeId} {op : BinOp} {x y : Operand} {r : RV} (ho : o.op = .binOp op t x y t2) (hd : DRel sy ρ st.dfs a.defers) (hw : WRel sy G B w0 ρ st w)
    (hg : (eqGuard op t x y (a.eval x) (a.eval y)).run P w = .ok () w) (h : Same sy ρ P st w (Go.binOp op t (a.eval x) (a.eval y)) r) : OpRes sy G B w0 P ρ a o w r := by
  rcases h with ⟨k, rfl⟩ | ⟨v, v', rfl, hv, hrun⟩
  · exact trivial
  · exact pure_val (by simp [execOp, ho, hg, hrun]) hw hd hv

theorem binOther_ok {t t2 : TypeId} {op : BinOp} {x y : Operand} {u v : CV} (ho : o.op = .binOp op t x y t2) (hd : DRel sy ρ st.dfs a.defers) (hw : WRel sy G B w0 ρ st w)
    (hu : VRel sy ρ u (a.eval x)) (hv : VRel sy ρ v (a.eval y)) : OpRes sy G B w0 P ρ a o w ((binOther (kindOf P t) (isLit x || isLit y) (eqSpec P t) op).f u v st) := by
  cases op <;> try exact trivial
  · unfold binOther
    simp only
    generalize hr : eqNil (kindOf P t) (isLit x || isLit y) (eqSpec P t) (plainRows st) u v (fun b => RV.ok (.bool b) st) = r
    rcases equal_ok (w := w) (p := x) (q := y) hw (fun h => by simpa using h) hu hv hr with ⟨k, rfl⟩ | ⟨b, rfl, h1, h2, h3, h4⟩
    · exact trivial
    · refine same_ok ho hd hw (h2 _) (.inr ⟨_, .bool b, rfl, by simp only [VRel], ?_⟩)
      rw [h3]; simp [h1]
  · unfold binOther
    simp only
    generalize hr : eqNil (kindOf P t) (isLit x || isLit y) (eqSpec P t) (plainRows st) u v (fun b => RV.ok (.bool (!b)) st) = r
    rcases equal_ok (w := w) (p := x) (q := y) hw (fun h => by simpa using h) hu hv hr with ⟨k, rfl⟩ | ⟨b, rfl, h1, h2, h3, h4⟩
    · exact trivial
    · refine same_ok ho hd hw (h2 _) (.inr ⟨_, .bool (!b), rfl, by simp only [VRel], ?_⟩)
      rw [h4]; simp [h1]

theorem binOp_ok {t t2 : TypeId} {op : BinOp} {x y : Operand} (ho : o.op = .binOp op t x y t2) (hs : SR sy G cx ρ env loc a) (hd : DRel sy ρ st.dfs a.defers) (hw : WRel sy G B w0 ρ st w) :
    OpRes sy G B w0 P ρ a o w ((oBinOp (kindOf P t) (isLit x || isLit y) (eqSpec P t) op (ev cx x) (ev cx y)).f call env loc st) := by
  have hx := evRel hs hw x
  have hy := evRel hs hw y
  unfold oBinOp
  cases hsh : isShift op with
  | true =>
    simp only
    generalize (ev cx x).f env loc = u at *
    cases u <;> try exact trivial
    simp only
    generalize (ev cx y).f env loc = v at *
    cases v <;> try exact trivial
    simp only [VRel] at hx hy
    refine same_ok ho hd hw (guard_plain _ _ _ _ _ _ (by rw [hx, hy]; rfl)) ?_
    rw [hx, hy]
    exact shiftInt_same _ _ _ _ _ _ hsh
  | false =>
    simp only
    generalize (ev cx x).f env loc = u at *
    have other : OpRes sy G B w0 P ρ a o w ((binOther (kindOf P t) (isLit x || isLit y) (eqSpec P t) op).f u ((ev cx y).f env loc) st) := binOther_ok ho hd hw hx hy
    cases u <;> try exact other
    rotate_left
    rotate_left
    · rename_i b
      unfold binAny
      simp only [VRel] at hx
      obtain ⟨n, hxn, hb⟩ := hx
      simp only
      unfold symGtr
      cases op <;> try exact trivial
      simp only
      generalize (ev cx y).f env loc = v at *
      cases v <;> try exact trivial
      rename_i k m
      simp only
      cases hc : (decide (k = .i64) && decide (m = 67108864)) with
      | false => exact trivial
      | true =>
        rw [Bool.and_eq_true] at hc
        have e1 : k = .i64 := of_decide_eq_true hc.1
        have e2 : m = 67108864 := of_decide_eq_true hc.2
        subst e1; subst e2
        simp only [VRel] at hy
        have h := binInt_same (sy := sy) (ρ := ρ) (P := P) (st := st) (w := w) .gtr t .i64 (n : Int) 67108864 rfl
        have e3 : (binInt .gtr).f .i64 (n : Int) 67108864 st = .ok (.bool b) st := by
          show RV.ok (.bool (decide ((n : Int) > 67108864))) st = _
          rw [← hb]
          congr 3
          rw [eq_iff_iff]
          omega
        rw [e3] at h
        refine same_ok ho hd hw (guard_plain _ _ _ _ _ _ (by rw [hxn, hy]; rfl)) ?_
        rw [hxn, hy]
        exact h
    · rename_i r
      unfold binAny
      simp only [VRel] at hx
      obtain ⟨n, hxn, hb⟩ := hx
      simp only
      unfold symRem
      cases op <;> try exact trivial
      simp only
      generalize (ev cx y).f env loc = v at *
      cases v <;> try exact trivial
      rename_i k m
      simp only
      cases hc : (decide (k = .i64) && decide (m = 40)) with
      | false => exact trivial
      | true =>
        rw [Bool.and_eq_true] at hc
        have e1 : k = .i64 := of_decide_eq_true hc.1
        have e2 : m = 40 := of_decide_eq_true hc.2
        subst e1; subst e2
        simp only [VRel] at hy
        have h := binInt_same (sy := sy) (ρ := ρ) (P := P) (st := st) (w := w) .rem t .i64 n 40 rfl
        have e3 : (binInt .rem).f .i64 n 40 st = .ok (.int .i64 r) st := by
          show (match decide ((40 : Int) = 0) with | true => RV.err 46 | false => forceI (fun m => .ok (.int .i64 m) st) (Int.tmod n 40)) = _
          rw [show decide ((40 : Int) = 0) = false from rfl]
          simp only [forceI_eq, hb]
        rw [e3] at h
        refine same_ok ho hd hw (guard_plain _ _ _ _ _ _ (by rw [hxn, hy]; rfl)) ?_
        rw [hxn, hy]
        exact h
    · rename_i k n
      unfold binAny
      simp only
      generalize (ev cx y).f env loc = v at *
      cases v <;> try exact trivial
      rename_i k' m
      simp only
      cases hk : decide (k = k') with
      | false => exact trivial
      | true =>
        have : k = k' := of_decide_eq_true hk
        subst this
        simp only [VRel] at hx hy
        refine same_ok ho hd hw (guard_plain _ _ _ _ _ _ (by rw [hx, hy]; rfl)) ?_
        rw [hx, hy]
        exact binInt_same _ _ _ _ _ hsh
    · rename_i l n
      unfold binAny
      simp only
      generalize (ev cx y).f env loc = v at *
      cases v <;> try exact trivial
      simp only [VRel] at hx hy
      refine same_ok ho hd hw (guard_plain _ _ _ _ _ _ (by rw [hx, hy]; rfl)) ?_
      rw [hx, hy]
      exact binStr_same _ _ _ _ _ _
end
end Go.Proofs.YtbmbjaogcmokoaaGreatDoorX

namespace Go.Proofs.YtbmbjaogcmokoaaGreatDoorX
open Go Go.RowKit
set_option linter.unusedVariables false

section
variable {sy : Sy} {G : Nat} {B : Kp} {w0 : World} {P : Program} {ρ ρ' : Ren} {cx : Cx} {env : List CV} {loc : Loc} {a : Act} {st st' : St} {w w' : World} {o : Oper} {call : Caller}

theorem unOp_ok {t : TypeId} {op : UnOp} {x : Operand} (ho : o.op = .unOp op t x) (hs : SR sy G cx ρ env loc a) (hd : DRel sy ρ st.dfs a.defers) (hw : WRel sy G B w0 ρ st w) :
    OpRes sy G B w0 P ρ a o w ((oUnOp op (ev cx x)).f call env loc st) := by
  have hx := evRel hs hw x
  unfold oUnOp
  cases op <;> try exact trivial
  · simp only
    generalize (ev cx x).f env loc = u at *
    cases u <;> try exact trivial
    rename_i k n
    simp only [VRel] at hx
    simp only
    rw [intV_eq]
    refine pure_val (v' := .int k (k.wrap (Int.sub 0 n))) ?_ hw hd (by simp only [VRel])
    simp [execOp, ho, hx, Op.unary, Op.intArith]
    exact congrArg _ (Int.zero_sub n).symm
  · simp only
    generalize (ev cx x).f env loc = u at *
    cases u <;> try exact trivial
    rename_i b
    simp only [VRel] at hx
    exact pure_val (v' := .bool (!b)) (by simp [execOp, ho, hx, Op.unary]) hw hd (by simp only [VRel])

theorem extract_ok {i : Nat} {x : Operand} (ho : o.op = .extract x i) (hs : SR sy G cx ρ env loc a) (hd : DRel sy ρ st.dfs a.defers) (hw : WRel sy G B w0 ρ st w) :
    OpRes sy G B w0 P ρ a o w ((oExtract (ev cx x) i).f call env loc st) := by
  have hx := evRel hs hw x
  unfold oExtract
  simp only
  generalize (ev cx x).f env loc = u at *
  cases u <;> try exact trivial
  rename_i l
  simp only [VRel] at hx
  obtain ⟨l', e, hl⟩ := hx
  simp only
  cases hi : l[i]? with
  | none => exact trivial
  | some v =>
    obtain ⟨v', h1, h2⟩ := hl.get _ _ hi
    exact pure_val (v' := v') (by simp [execOp, ho, e, Instr.extract, h1]) hw hd h2

theorem newObj_ok {ob : Obj} {O : Go.Obj} {bi : BI} {K : Nat → St → RV} (hw : WRel sy G B w0 ρ st w) (hbi : bi.blk = w.heap.size)
    (hnew : ORel sy B (ρ.put st.next bi) (w.alloc O) st.next ob)
    (hK : ∀ st1, st1.dfs = st.dfs → ρ.le (ρ.put st.next bi) → (ρ.put st.next bi) st.next = some bi → WRel sy G B w0 (ρ.put st.next bi) st1 (w.alloc O) → OpRes sy G B w0 P ρ a o w (K st.next st1)) :
    OpRes sy G B w0 P ρ a o w (newObj ob st K) := by
  obtain ⟨h, n, d⟩ := st
  rw [newObj_eq]
  exact hK ⟨_, n + 1, d⟩ rfl (Ren.le_put hw.fresh) (Ren.put_same _ _ _) (hw.new hbi hnew)

theorem run_getObj {b : Nat} {O : Go.Obj} (h : w.heap[b]? = some O) (hc : ∀ c e f, O ≠ .cells c e f) : (getObj b).run P w = .ok O w := by
  cases O <;> first | exact absurd rfl (hc _ _ _) | simp [getObj, Sem.run, h]
theorem range_ok {t : TypeId} {x : Operand} (ho : o.op = .range t x) (hs : SR sy G cx ρ env loc a) (hd : DRel sy ρ st.dfs a.defers) (hw : WRel sy G B w0 ρ st w) :
    OpRes sy G B w0 P ρ a o w ((oRange P t (ev cx x)).f call env loc st) := by
  have hx := evRel hs hw x
  unfold oRange
  cases hu : P.underlying t with
  | none => exact trivial
  | some d =>
    simp only
    cases d <;> try exact trivial
    rotate_left
    · rename_i kt et
      simp only
      generalize (ev cx x).f env loc = u at *
      cases u <;> try exact trivial
      · rename_i b
        simp only
        cases hg : st.heap.get b with
        | none => exact trivial
        | some ob =>
          simp only
          cases ob <;> try exact trivial
          rename_i es clock
          obtain ⟨i, es', p1, p2, p3, p4⟩ := hw.obj b _ hg
          simp only [VRel] at hx
          obtain ⟨i', q1, q2⟩ := hx
          rw [p1] at q1; cases q1
          simp only
          refine newObj_ok (O := .mapIter (some i.blk) clock #[] clock) (bi := ⟨w.heap.size, 0, 0, 0⟩) hw rfl ⟨_, some i.blk, Ren.put_same _ _ _, hw.over, rfl, alloc_heap _ _, i, Ren.le_put hw.fresh _ _ p1, rfl⟩ fun st1 hd1 hle hsame hw1 => ?_
          refine ok_val (v' := .pointer (some ⟨w.heap.size, 0, none⟩)) (w' := w.alloc (.mapIter (some i.blk) clock #[] clock)) ?_ hle (by simp only [VRel]; exact ⟨_, hsame, by simp⟩) hw1 (by rw [hd1]; exact hd)
          simp [execOp, ho, q2, Instr.range, run_under hu, run_getObj p3 (by simp)]
      · simp only [VRel] at hx
        simp only
        refine newObj_ok (O := .mapIter none 0 #[] 0) (bi := ⟨w.heap.size, 0, 0, 0⟩) hw rfl ⟨_, none, Ren.put_same _ _ _, hw.over, rfl, alloc_heap _ _, rfl⟩ fun st1 hd1 hle hsame hw1 => ?_
        refine ok_val (v' := .pointer (some ⟨w.heap.size, 0, none⟩)) (w' := w.alloc (.mapIter none 0 #[] 0)) ?_ hle (by simp only [VRel]; exact ⟨_, hsame, by simp⟩) hw1 (by rw [hd1]; exact hd)
        simp [execOp, ho, hx, Instr.range, run_under hu]
    simp only
    generalize (ev cx x).f env loc = u at *
    cases u <;> try exact trivial
    rename_i l n
    simp only [VRel] at hx
    simp only [strOf]
    refine newObj_ok (O := .stringIter (bytesOf l n) 0) (bi := ⟨w.heap.size, 0, 0, 0⟩) hw rfl ⟨_, Ren.put_same _ _ _, hw.over, rfl, alloc_heap _ _⟩ fun st1 hd1 hle hsame hw1 => ?_
    refine ok_val (v' := .pointer (some ⟨w.heap.size, 0, none⟩)) (w' := w.alloc (.stringIter (bytesOf l n) 0)) ?_ hle (by simp only [VRel]; exact ⟨_, hsame, by simp⟩) hw1 (by rw [hd1]; exact hd)
    simp [execOp, ho, hx, Instr.range, run_under hu]

theorem run_setObj {b : Nat} {O O' : Go.Obj} (h : w.heap[b]? = some O) (hc : ∀ c e f, O ≠ .cells c e f) : (Go.setObj b O').run P w = .ok () { w with heap := w.heap.setIfInBounds b O' } := by
  cases O <;> first | exact absurd rfl (hc _ _ _) | simp [Go.setObj, Sem.run, h]
theorem setObj_below {b : Nat} {O' : Go.Obj} (hB : ¬ B b) : Kept B w { w with heap := w.heap.setIfInBounds b O' } :=
  ⟨rfl, rfl, rfl, by simp, fun k hk => by
    have : b ≠ k := by intro e; rw [e] at hB; exact hB hk
    simp [this]⟩
theorem setObj_ne {b k : Nat} {O' : Go.Obj} (hk : k ≠ b) : ({ w with heap := w.heap.setIfInBounds b O' } : World).heap[k]? = w.heap[k]? := by
  simp [Ne.symm hk]
theorem setObj_same {b : Nat} {O' : Go.Obj} (hb : b < w.heap.size) : ({ w with heap := w.heap.setIfInBounds b O' } : World).heap[b]? = some O' := by
  simp [hb]

/-- the entries that have not been met -/
theorem memN_eq (n : Nat) : ∀ (l : List Nat), memN n l = l.contains n
  | [] => rfl
  | m :: r => by
    unfold memN
    rw [memN_eq n r, List.contains_cons]
    congr 1
    apply Bool.eq_iff_iff.2
    rw [Nat.beq_eq, beq_iff_eq]
theorem leftE_rel {seen : List Nat} : ∀ {es : List Ent} {es' : List MapEntry}, EntRel sy ρ es es' → EntRel sy ρ (leftE seen es) (es'.filter fun e => !seen.toArray.contains e.born)
  | [], _, h => by
    simp only [EntRel] at h
    subst h
    simp [leftE, EntRel]
  | e :: r, _, h => by
    simp only [EntRel] at h
    obtain ⟨y, s, rfl, h1, h2, h3, h4⟩ := h
    have ih := leftE_rel (seen := seen) h4
    have hm : memN e.born seen = seen.contains y.born := by rw [memN_eq, h3]
    unfold leftE
    rw [List.filter_cons]
    have e2 : seen.toArray.contains y.born = seen.contains y.born := by simp
    rw [e2, hm]
    cases seen.contains y.born with
    | true => simpa using ih
    | false => simp only [cond_false, Bool.not_false, if_true, EntRel]; exact ⟨y, _, rfl, h1, h2, h3, ih⟩
theorem steady_rel {seen : List Nat} {last : Nat} {es : List Ent} {es' : Array MapEntry} (h : EntRel sy ρ es es'.toList) (hst : steady seen last es = true) : (!seen.toArray.isEmpty && !es'.isEmpty && es'.all (fun e => decide (e.born ≥ last))) = false := by
  cases seen with
  | nil => rfl
  | cons m seen =>
    cases es with
    | nil =>
      simp only [EntRel] at h
      have : es' = #[] := Array.toList_inj.1 (by simpa using h)
      subst this
      simp
    | cons e es =>
      have hall : es'.all (fun e => decide (e.born ≥ last)) = false := by
        have hany : (e :: es).any (fun e => Nat.blt e.born last) = true := hst
        have key : ∀ (l : List Ent) (l' : List MapEntry), EntRel sy ρ l l' → l.any (fun e => Nat.blt e.born last) = true → l'.all (fun e => decide (e.born ≥ last)) = false := by
          intro l
          induction l with
          | nil => intro l' _ h; cases h
          | cons x xs ih =>
            intro l' hl hx
            simp only [EntRel] at hl
            obtain ⟨y, s, rfl, _, _, h3, h4⟩ := hl
            rw [List.any_cons, Bool.or_eq_true] at hx
            rw [List.all_cons]
            rcases hx with h | h
            · have : x.born < last := by simpa [Nat.blt_eq] using h
              have : ¬ y.born ≥ last := by omega
              simp [this]
            · rw [ih s h4 h]; simp
        have := key _ _ h hany
        rw [← Array.all_toList]; exact this
      rw [hall]; simp

theorem nextMap_ok {x : Operand} {b : Nat} {i : BI} {m : Option Nat} {since last : Nat} {seen : List Nat} (ho : o.op = .next x false) (hd : DRel sy ρ st.dfs a.defers) (hw : WRel sy G B w0 ρ st w)
    (hg : st.heap.get b = some (.miter m since seen last)) (hi : ρ b = some i) (e : a.eval x = .pointer (some ⟨i.blk, 0, none⟩)) : OpRes sy G B w0 P ρ a o w (nextMap b m since seen last st) := by
  obtain ⟨i', m', h1, h2, h3, h4, h5⟩ := hw.obj b _ hg
  rw [hi] at h1; cases h1
  have over : ∀ {w1 : World}, (Instr.next (a.eval x) false o.type).run P w = .ok (.tuple #[.bool false]) w → OpRes sy G B w0 P ρ a o w (.ok (.tup [.bool false]) st) := fun hrun =>
    pure_val (v' := .tuple #[.bool false]) (by simp [execOp, ho, hrun]) hw hd (by simp only [VRel]; exact ⟨[.bool false], by simp, VRels.cons (by simp only [VRel]) VRels.nil⟩)
  unfold nextMap
  cases m with
  | none =>
    simp only at h5 ⊢
    subst h5
    refine over (w1 := w) ?_
    simp [e, Instr.next, run_getObj h4 (by simp)]
  | some mb =>
    obtain ⟨k, hk1, hk2⟩ := h5
    simp only
    cases hgm : st.heap.get mb with
    | none => exact trivial
    | some ob =>
      simp only
      cases ob <;> try exact trivial
      rename_i es clock
      obtain ⟨k', es', p1, p2, p3, p4⟩ := hw.obj mb _ hgm
      rw [hk1] at p1; cases p1
      subst hk2
      simp only
      cases hst : steady seen last es with
      | false => exact trivial
      | true =>
        simp only [cond_true]
        have hs := steady_rel p4 hst
        have hl := leftE_rel (seen := seen) p4
        have hfil : (es'.filter fun e => !seen.toArray.contains e.born).toList = es'.toList.filter fun e => !seen.toArray.contains e.born := by simp
        generalize hL : leftE seen es = L at hl
        cases L with
        | nil =>
          simp only [EntRel] at hl
          have hE : (es'.filter fun e => !seen.toArray.contains e.born) = #[] := Array.toList_inj.1 (by rw [hfil, hl])
          refine over (w1 := w) ?_
          simp only [e, Instr.next, Sem.run_bind, run_getObj h4 (by simp), Result.andThen, run_getObj p3 (by simp), hs, hE]
          simp [choose, Sem.run, Question.forced]
        | cons en r =>
          cases r with
          | cons _ _ => exact trivial
          | nil =>
            simp only [EntRel] at hl
            obtain ⟨y, s, hlist, k1, k2, k3, rfl⟩ := hl
            simp only
            cases hb : Nat.blt en.born since with
            | false => exact trivial
            | true =>
              have hlt : en.born < since := by simpa [Nat.blt_eq] using hb
              simp only [cond_true]
              obtain ⟨hp0, nx, d0⟩ := st
              rw [setObj_eq]
              have hE : (es'.filter fun e => !seen.toArray.contains e.born) = #[y] := Array.toList_inj.1 (by rw [hfil, hlist])
              have hblk : i.blk < w.heap.size := (Array.getElem?_eq_some_iff.1 h4).1
              have hw1 : WRel sy G B w0 ρ ⟨T.set hp0 (.miter (some mb) since (seen ++ [en.born]) clock) b, nx, d0⟩ { w with heap := w.heap.setIfInBounds i.blk (.mapIter (some k.blk) since (seen.toArray.push y.born) clock) } :=
                hw.update hg rfl hi h2 (setObj_below h2) (fun k hk => setObj_ne hk) ⟨i, some k.blk, hi, h2, h3, by rw [setObj_same hblk, ← k3]; simp, k, hk1, rfl⟩
              refine ok_val (v' := .tuple #[.bool true, y.key, y.val]) ?_ (Ren.le_refl _) ?_ hw1 hd
              · have hy1 : y.born < since := by omega
                have hy2 : ¬ y.born ≥ since := by omega
                have : (Instr.next (a.eval x) false o.type).run P w = .ok (.tuple #[.bool true, y.key, y.val]) { w with heap := w.heap.setIfInBounds i.blk (.mapIter (some k.blk) since (seen.toArray.push y.born) clock) } := by
                  simp only [e, Instr.next, Sem.run_bind, run_getObj h4 (by simp), Result.andThen, run_getObj p3 (by simp), hs, hE]
                  simp [choose, Sem.run, Question.forced, hy1, hy2, run_setObj h4 (by simp)]
                simp [execOp, ho, this]
              · simp only [VRel]
                exact ⟨[.bool true, y.key, y.val], by simp, VRels.cons (by simp only [VRel]) (VRels.cons k1 (VRels.cons k2 VRels.nil))⟩

theorem next_ok {x : Operand} {s : Bool} (ho : o.op = .next x s) (hs : SR sy G cx ρ env loc a) (hd : DRel sy ρ st.dfs a.defers) (hw : WRel sy G B w0 ρ st w) :
    OpRes sy G B w0 P ρ a o w ((oNext (ev cx x) s).f call env loc st) := by
  have hx := evRel hs hw x
  unfold oNext
  cases s with
  | false =>
    simp only
    generalize (ev cx x).f env loc = u at *
    cases u <;> try exact trivial
    rename_i b ofs
    simp only [VRel] at hx
    obtain ⟨i, hi, e⟩ := hx
    simp only
    cases hz : Nat.beq ofs 0 with
    | false => exact trivial
    | true =>
      have hz' : ofs = 0 := Nat.eq_of_beq_eq_true hz
      subst hz'
      simp only
      cases hg : st.heap.get b with
      | none => exact trivial
      | some ob =>
        simp only
        cases ob <;> try exact trivial
        rename_i m since seen last
        have hx := hw.obj b _ hg
        obtain ⟨i', m', h1, _, h3, _⟩ := hx
        rw [hi] at h1; cases h1
        exact nextMap_ok ho hd hw hg hi (by rw [e, h3])
  | true =>
    simp only
    generalize (ev cx x).f env loc = u at *
    cases u <;> try exact trivial
    rename_i b ofs
    simp only [VRel] at hx
    obtain ⟨i, hi, e⟩ := hx
    simp only
    cases hz : Nat.beq ofs 0 with
    | false => exact trivial
    | true =>
      have hz' : ofs = 0 := Nat.eq_of_beq_eq_true hz
      subst hz'
      simp only
      cases hg : st.heap.get b with
      | none => exact trivial
      | some ob =>
        simp only
        cases ob <;> try exact trivial
        rename_i l n p
        obtain ⟨i', h1, h2, h3, h4⟩ := hw.obj b _ hg
        rw [hi] at h1; cases h1
        have hblk : i.blk < w.heap.size := (Array.getElem?_eq_some_iff.1 h4).1
        have e' : a.eval x = .pointer (some ⟨i.blk, 0, none⟩) := by rw [e, h3]
        simp only [nextStr]
        cases hp : Nat.blt p l with
        | false =>
          have hge : ¬ p < l := fun h => by
            have h2 : Nat.blt p l = true := by simpa [Nat.blt_eq] using h
            rw [h2] at hp; cases hp
          simp only [cond_false]
          refine pure_val (v' := .tuple #[.bool false]) ?_ hw hd (by simp only [VRel]; exact ⟨[.bool false], by simp, VRels.cons (by simp only [VRel]) VRels.nil⟩)
          simp [execOp, ho, e', Instr.next, run_getObj h4 (by simp), bytesOf_size, hge]
        | true =>
          have hlt : p < l := by simpa [Nat.blt_eq] using hp
          simp only [cond_true, forceN_eq]
          cases hc : Nat.blt (byteAt n p) 128 with
          | false => exact trivial
          | true =>
            have hc' : byteAt n p < 128 := by simpa [Nat.blt_eq] using hc
            obtain ⟨hp0, nx, d0⟩ := st
            simp only [cond_true, setObj_eq]
            have hsz : p < (bytesOf l n).size := by rw [bytesOf_size]; exact hlt
            have hb : ((bytesOf l n)[p]'hsz).toNat = byteAt n p := by
              have h := bytesOf_get (l := l) (n := n) hlt
              rw [getElem?_pos (bytesOf l n) p hsz] at h
              have h' := Option.some.inj h
              rw [h']
              have := byteAt_eq n p
              exact Int.ofNat_inj.1 this
            have hdec : Utf8.decode (bytesOf l n) p = (byteAt n p, 1) := by
              rw [decode_ascii (bytesOf l n) p hsz (by rw [hb]; exact hc'), hb]
            have hw1 : WRel sy G B w0 ρ ⟨T.set hp0 (.siter l n (Nat.succ p)) b, nx, d0⟩ { w with heap := w.heap.setIfInBounds i.blk (.stringIter (bytesOf l n) (p + 1)) } :=
              hw.update hg rfl hi h2 (setObj_below h2) (fun k hk => setObj_ne hk) ⟨i, hi, h2, h3, setObj_same hblk⟩
            refine ok_val (v' := .tuple #[.bool true, .int .i64 p, .int .i32 (byteAt n p)]) ?_ (Ren.le_refl _) ?_ hw1 hd
            · simp [execOp, ho, e', Instr.next, run_getObj h4 (by simp), bytesOf_size, hlt, hdec, run_setObj h4 (by simp), goInt]
            · simp only [VRel]
              exact ⟨[.bool true, .int .i64 p, .int .i32 (byteAt n p)], by simp, VRels.cons (by simp only [VRel]) (VRels.cons (by simp only [VRel]; rfl) (VRels.cons (by simp only [VRel]; rfl) VRels.nil))⟩
end
end Go.Proofs.YtbmbjaogcmokoaaGreatDoorX

namespace Go.Proofs.YtbmbjaogcmokoaaGreatDoorX
open Go Go.RowKit
set_option linter.unusedVariables false

section
variable {sy : Sy} {G : Nat} {B : Kp} {w0 : World} {P : Program} {ρ ρ' : Ren} {cx : Cx} {env : List CV} {loc : Loc} {a : Act} {st st' : St} {w w' : World} {o : Oper} {call : Caller}

theorem intAt_rel {v : CV} {v' : Value} (h : VRel sy ρ v v') {K : Nat → RV} {r : RV} (hr : intAt v K = r) : (∃ k, r = .err k) ∨ ∃ k m, v' = .int k (Int.ofNat m) ∧ K m = r := by
  unfold intAt at hr
  cases v <;> try exact .inl ⟨_, hr.symm⟩
  rename_i k n
  simp only [VRel] at h
  cases n with
  | negSucc m => exact .inl ⟨_, hr.symm⟩
  | ofNat m => exact .inr ⟨k, m, h, hr⟩

def OptIs (a : Act) (d m : Nat) : Option Operand → Prop
  | none => m = d
  | some y => ∃ k, a.eval y = .int k (Int.ofNat m)
theorem optInt_rel (hs : SR sy G cx ρ env loc a) (hw : WRel sy G B w0 ρ st w) (x : Option Operand) {d : Nat} {K : Nat → RV} {r : RV} (hr : (optInt cx x).f env loc d K = r) :
    (∃ k, r = .err k) ∨ ∃ m, K m = r ∧ OptIs a d m x := by
  cases x with
  | none => exact .inr ⟨d, hr, rfl⟩
  | some y =>
    rcases intAt_rel (evRel hs hw y) hr with h | ⟨k, m, h1, h2⟩
    · exact .inl h
    · exact .inr ⟨m, h2, k, h1⟩

theorem sliceBound_ok (k : IntKind) (m y : Nat) (code : BoundsCode) (h : m ≤ y) (w : World) : (Instr.sliceBound (.int k (Int.ofNat m)) y code).run P w = .ok m w := by
  unfold Instr.sliceBound
  have h1 : (0 : Int) ≤ Int.ofNat m := Int.natCast_nonneg m
  have h2 : Int.ofNat m ≤ (y : Int) := Int.ofNat_le.2 h
  simp only [Sem.run_bind, asIntOf, Sem.run_pure, Result.andThen]
  rw [if_pos ⟨h1, h2⟩]
  rfl

theorem bounds_ok (b : Bool) {len cap l h : Nat} {lo hi : Option Operand} (hh : OptIs a len h hi) (hl : OptIs a 0 l lo) (h1 : l ≤ h) (h2 : h ≤ cap) (w : World) :
    (Instr.sliceBounds b len cap (lo.map a.eval) (hi.map a.eval) none).run P w = .ok (l, h, cap) w := by
  have e1 : ∀ x code, hi = some x → (Instr.sliceBound (a.eval x) cap code).run P w = .ok h w := fun x code e => by
    subst e
    obtain ⟨k, e⟩ := hh
    rw [e]
    exact sliceBound_ok k h cap code h2 w
  have e2 : ∀ x code, lo = some x → (Instr.sliceBound (a.eval x) h code).run P w = .ok l w := fun x code e => by
    subst e
    obtain ⟨k, e⟩ := hl
    rw [e]
    exact sliceBound_ok k l h code h1 w
  unfold Instr.sliceBounds
  cases hi with
  | none =>
    simp only [OptIs] at hh
    subst hh
    cases lo with
    | none => simp only [OptIs] at hl; subst hl; simp
    | some x => simp [e2 x _ rfl]
  | some y =>
    cases lo with
    | none => simp only [OptIs] at hl; subst hl; simp [e1 y _ rfl]
    | some x => simp [e1 y _ rfl, e2 x _ rfl]

theorem sliceStr_ok {t : TypeId} {x : Operand} {lo hi : Option Operand} (ho : o.op = .slice t x lo hi none) (hs : SR sy G cx ρ env loc a) (hd : DRel sy ρ st.dfs a.defers) (hw : WRel sy G B w0 ρ st w) :
    OpRes sy G B w0 P ρ a o w ((oSlice P cx t (ev cx x) lo hi none).f call env loc st) := by
  have hx := evRel hs hw x
  unfold oSlice
  cases hu : P.underlying t with
  | none => exact trivial
  | some d =>
    simp only
    cases d <;> try exact trivial
    simp only
    generalize (ev cx x).f env loc = u at *
    cases u <;> try exact trivial
    rename_i l n
    simp only [VRel] at hx
    simp only [strOf]
    generalize hr : (optInt cx hi).f env loc l (fun h => (optInt cx lo).f env loc 0 fun q => sliceStr l n q h st) = r
    rcases optInt_rel hs hw hi hr with ⟨k, rfl⟩ | ⟨h, hr2, hh⟩
    · exact trivial
    · rcases optInt_rel hs hw lo hr2 with ⟨k, rfl⟩ | ⟨q, hr3, hl⟩
      · exact trivial
      · subst hr3
        unfold sliceStr
        cases hc : (Nat.ble q h && Nat.ble h l) with
        | false => exact trivial
        | true =>
          simp only [Bool.and_eq_true, Nat.ble_eq] at hc
          simp only [cond_true, strV, forceN_eq]
          refine pure_val (v' := .string ((bytesOf l n).extract q h)) ?_ hw hd (by simp only [VRel]; rw [bytesOf_extract hc.1 hc.2])
          have hb := bounds_ok (P := P) (a := a) false (len := l) (cap := l) (l := q) (h := h) hh hl hc.1 hc.2 w
          simp [execOp, ho, Instr.sliceAt, Instr.slice, run_under hu, hx, bytesOf_size, hb]

theorem builtin_call {c : Call} {b : Builtin} (ho : o.op = .call c) (hc : c.callee = .builtin b) {s : Sem Next} (h : ∀ consts, builtin b c.argTypes o.type consts (c.args.map a.eval) = s) :
    (execOp a.eval o).run P w = s.run P w := by
  simp only [execOp, ho, resolve, hc, Sem.run_bind, Sem.run_pure, Result.andThen, invoke, h]

theorem len_ok {c : Call} {x : Operand} {t : TypeId} (ho : o.op = .call c) (hc : c.callee = .builtin .len) (ha : c.args.toList = [x]) (ht : c.argTypes.toList = [t])
    (hs : SR sy G cx ρ env loc a) (hd : DRel sy ρ st.dfs a.defers) (hw : WRel sy G B w0 ρ st w) :
    OpRes sy G B w0 P ρ a o w ((oBuiltin P cx .len [x] [t]).f call env loc st) := by
  have hx := evRel hs hw x
  have ha' : c.args = #[x] := Array.toList_inj.1 (by simpa using ha)
  have ht' : c.argTypes = #[t] := Array.toList_inj.1 (by simpa using ht)
  have hrun : ∀ s : Sem Value, Builtin.len_ #[t] o.type #[a.eval x] = s → (execOp a.eval o).run P w = (s.run P w).andThen fun v w => .ok (.value v) w := fun s h => by
    rw [builtin_call (s := do pure (.value (← s))) ho hc (fun _ => by rw [ha', ht']; simp only [builtin]; rw [← h]; simp)]
    simp
  unfold oBuiltin
  simp only
  cases hu : P.underlying t with
  | none => exact trivial
  | some d =>
    simp only
    cases d <;> try exact trivial
    · simp only
      generalize (ev cx x).f env loc = u at *
      cases u <;> try exact trivial
      rotate_left
      · rename_i i b
        simp only [VRel] at hx
        obtain ⟨hx, hb⟩ := hx
        refine pure_val (v' := .int .i64 (Int.ofNat (sy.str i).size)) ?_ hw hd (by simp only [VRel]; exact ⟨_, rfl, hb⟩)
        rw [hrun _ rfl, hx]
        simp [Builtin.len_, run_under hu, goInt]
      rename_i l n
      simp only [VRel] at hx
      refine pure_val (v' := .int .i64 (Int.ofNat l)) ?_ hw hd (by simp only [VRel])
      rw [hrun _ rfl, hx]
      simp [Builtin.len_, run_under hu, goInt, bytesOf_size]
    · simp only
      generalize (ev cx x).f env loc = u at *
      cases u <;> try exact trivial
      · rename_i b ofs l cp q
        simp only [VRel] at hx
        obtain ⟨i, hi, e⟩ := hx
        refine pure_val (v' := .int .i64 (Int.ofNat l)) ?_ hw hd (by simp only [VRel])
        rw [hrun _ rfl, e]
        simp [Builtin.len_, run_under hu, goInt]
      · simp only [VRel] at hx
        refine pure_val (v' := .int .i64 (Int.ofNat 0)) ?_ hw hd (by simp only [VRel])
        rw [hrun _ rfl, hx]
        simp [Builtin.len_, run_under hu, goInt]
    · rename_i n e
      refine pure_val (v' := .int .i64 (Int.ofNat n)) ?_ hw hd (by simp only [VRel])
      rw [hrun _ rfl]
      simp [Builtin.len_, run_under hu, goInt]
    · rename_i kt et
      simp only
      unfold lenMap
      generalize (ev cx x).f env loc = u at *
      cases u <;> try exact trivial
      · rename_i b
        simp only
        cases hg : st.heap.get b with
        | none => exact trivial
        | some ob =>
          simp only
          cases ob <;> try exact trivial
          rename_i es clock
          obtain ⟨i, es', p1, p2, p3, p4⟩ := hw.obj b _ hg
          simp only [VRel] at hx
          obtain ⟨i', q1, q2⟩ := hx
          rw [p1] at q1; cases q1
          have hlen : ∀ {l : List Ent} {l' : List MapEntry}, EntRel sy ρ l l' → l'.length = l.length := by
            intro l
            induction l with
            | nil => intro l' h; simp only [EntRel] at h; subst h; rfl
            | cons y r ih =>
              intro l' h
              simp only [EntRel] at h
              obtain ⟨z, s, rfl, _, _, _, h4⟩ := h
              simp [ih h4]
          have hrec : ∀ (l : List Ent) (n : Nat), (List.rec (motive := fun _ => Nat → RV) (fun n => .ok (.int .i64 (.ofNat n)) st) (fun _ _ ih n => forceN ih (Nat.succ n)) l : Nat → RV) n = .ok (.int .i64 (.ofNat (n + l.length))) st := by
            intro l
            induction l with
            | nil => intro n; rfl
            | cons y r ih =>
              intro n
              have : (List.rec (motive := fun _ => Nat → RV) (fun n => .ok (.int .i64 (.ofNat n)) st) (fun _ _ ih n => forceN ih (Nat.succ n)) (y :: r) : Nat → RV) n = forceN (List.rec (motive := fun _ => Nat → RV) (fun n => .ok (.int .i64 (.ofNat n)) st) (fun _ _ ih n => forceN ih (Nat.succ n)) r) (Nat.succ n) := rfl
              rw [this, forceN_eq, ih, List.length_cons]
              congr 3
              omega
          simp only [hrec es 0, Nat.zero_add]
          refine pure_val (v' := .int .i64 (Int.ofNat es.length)) ?_ hw hd (by simp only [VRel])
          have hsz : es'.size = es.length := by rw [← Array.length_toList, hlen p4]
          rw [hrun _ rfl, q2]
          simp [Builtin.len_, run_under hu, goInt, run_getObj p3 (by simp), hsz]
      · simp only [VRel] at hx
        refine pure_val (v' := .int .i64 (Int.ofNat 0)) ?_ hw hd (by simp only [VRel])
        rw [hrun _ rfl, hx]
        simp [Builtin.len_, run_under hu, goInt]
end
end Go.Proofs.YtbmbjaogcmokoaaGreatDoorX

namespace Go.Proofs.YtbmbjaogcmokoaaGreatDoorX
open Go Go.RowKit
set_option linter.unusedVariables false

theorem growBy_le (need : Nat) : ∀ (r c : Nat), c ≤ need + (need + 768) / 4 → Builtin.growBy need r c ≤ need + (need + 768) / 4
  | 0, c, h => h
  | r + 1, c, h => by
    unfold Builtin.growBy
    split
    · exact h
    · exact growBy_le need r _ (by omega)
theorem nextcap_le {need cap : Nat} (h : cap < need) : Builtin.nextslicecap need cap ≤ 2 * need + 768 := by
  unfold Builtin.nextslicecap
  split
  · omega
  · split
    · omega
    · have := growBy_le need 4 cap (by omega)
      omega

section
variable {sy : Sy} {G : Nat} {B : Kp} {w0 : World} {P : Program} {ρ ρ' : Ren} {cx : Cx} {env : List CV} {loc : Loc} {a : Act} {st st' : St} {w w' : World} {o : Oper} {call : Caller}

theorem run_by {t n : Nat} (h : byOf P t = some n) (w : World) : ∃ i, (typeInfo t).run P w = .ok i w ∧ i.bytes = n := by
  unfold byOf at h
  cases hi : P.info? t with
  | none => rw [hi] at h; cases h
  | some i => rw [hi] at h; cases h; exact ⟨i, run_info hi w, rfl⟩

theorem run_askRoom (n : Nat) (w : World) : (askRoom n).run P w = .ok () w := by
  unfold askRoom
  split <;> simp [mark, Sem.run]
theorem noInt_run {t2 : Nat} (h : noInt P t2 = true) (w : World) : ∃ d, (underlying t2).run P w = .ok d w ∧ ∀ k, d ≠ .int k := by
  unfold noInt at h
  split at h
  · rename_i d hu
    refine ⟨d, run_under hu w, fun k e => ?_⟩
    subst e
    cases h
  · cases h

theorem run_append_room {t t2 e n es : Nat} {ty : TypeId} {x : Value} {base : Option Addr} {sLen sCap : Nat} {new : Array Value} (hu : P.underlying t = some (.slice e)) (h2 : noInt P t2 = true) (hes : szOf P e = some es)
    (hlen : (Builtin.lenOf x).run P w = .ok n w) (hnew : (Builtin.firstCells es n x).run P w = .ok new w) (hle : sLen + n ≤ sCap)
    (hst : (match base with | some a => storeCells (a.add (sLen * es)) new.toList | none => (pure () : Sem Unit)).run P w = .ok () w') :
    (Builtin.append_ #[t, t2] ty #[.slice base sLen sCap, x]).run P w = .ok (.slice base (sLen + n) sCap) w' := by
  obtain ⟨d, hd, hk⟩ := noInt_run h2 w
  unfold Builtin.append_
  simp only [List.getElem?_toArray, List.getElem?_cons_zero, List.getElem?_cons_succ, Sem.run_bind, run_under hu, Result.andThen, run_size hes, hd, Sem.run_pure]
  cases d <;> first
    | exact absurd rfl (hk _)
    | (cases base <;> simp [hlen, hle, hnew] at hst ⊢ <;> first | exact hst | (rw [hst]; rfl))

theorem run_append_grow {t t2 e n es by_ : Nat} {ty : TypeId} {x z : Value} {base : Option Addr} {sLen sCap : Nat} {old new : Array Value} (hu : P.underlying t = some (.slice e)) (h2 : noInt P t2 = true) (hes : szOf P e = some es)
    (hby : byOf P e = some by_) (hz : ∀ w, (zeroValue e).run P w = .ok z w) (hzs : z.cells.size = es)
    (hlen : (Builtin.lenOf x).run P w = .ok n w) (hnew : (Builtin.firstCells es n x).run P w.drew = .ok new w.drew) (hlt : sCap < sLen + n)
    (hold : (Builtin.firstCells es sLen (.slice base sLen sCap)).run P w.drew = .ok old w.drew) (hroom : roomFor (sLen + n) by_ = true) :
    ∃ cap rest, sLen + n ≤ cap ∧ Array.size rest = (cap - (sLen + n)) * es ∧
      (Builtin.append_ #[t, t2] ty #[.slice base sLen sCap, x]).run P w = .ok (.slice (some ⟨w.heap.size, 0, none⟩) (sLen + n) cap) (w.drew.alloc (.cells (old ++ new ++ rest) e)) := by
  obtain ⟨d, hd, hk⟩ := noInt_run h2 w
  obtain ⟨i, hi⟩ : ∃ i, P.info? e = some i := by
    unfold byOf at hby
    cases h : P.info? e with
    | none => rw [h] at hby; cases hby
    | some i => exact ⟨i, rfl⟩
  have hb : i.bytes = by_ := by unfold byOf at hby; rw [hi] at hby; cases hby; rfl
  simp only [roomFor, Bool.and_eq_true, Nat.ble_eq] at hroom
  obtain ⟨r1, r2⟩ := hroom
  have r2' : (2 * (sLen + n) + 768) * by_ ≤ 281474976710656 := r2
  generalize hcap : (Question.appendCap (sLen + n) sCap e).cut (w.tape w.drawn (Question.appendCap (sLen + n) sCap e)) = cap
  have hcap' : sLen + n ≤ cap := by rw [← hcap]; exact Nat.le_add_right _ _
  have hforced : (Question.appendCap (sLen + n) sCap e).forced = false := rfl
  refine ⟨cap, Builtin.zeroCells z.cells (cap - (sLen + n)), hcap', by simp [Builtin.zeroCells, hzs], ?_⟩
  have n1 : ¬ sLen + n ≤ sCap := by omega
  have n2 : ¬ ((9223372036854775807 : Int) < (sLen : Int) + (n : Int) ∧ i.bytes = 0) := by omega
  have n3 : ¬ Builtin.nextslicecap (sLen + n) sCap * i.bytes > 2 ^ 48 := by
    have h1 := nextcap_le hlt
    have h2 : Builtin.nextslicecap (sLen + n) sCap * i.bytes ≤ (2 * (sLen + n) + 768) * i.bytes := Nat.mul_le_mul_right _ h1
    rw [hb] at h2 ⊢
    omega
  unfold Builtin.append_
  simp only [List.getElem?_toArray, List.getElem?_cons_zero, List.getElem?_cons_succ, Sem.run_bind, run_under hu, Result.andThen, run_size hes, hd, Sem.run_pure]
  cases d <;> first
    | exact absurd rfl (hk _)
    | (simp [hlen, n1, n2, n3, run_info hi, hforced, hcap, hnew, hold, hz]; rw [run_newRow]; rfl)

theorem byteCells_rel : ∀ (l n : Nat), VRels sy ρ (byteCells l n) ((bytesL l n).map fun b => .int .u8 b.toNat)
  | 0, n => (VRels.nil : VRels sy ρ [] [])
  | l + 1, n => by
    have e : byteCells (l + 1) n = CV.int .u8 (.ofNat (n % 256)) :: byteCells l (n / 256) := by
      have e0 : byteCells (l + 1) n = forceN (fun c => forceN (fun m => CV.int .u8 (.ofNat c) :: byteCells l m) (Nat.div n 256)) (Nat.mod n 256) := rfl
      rw [e0, forceN_eq, forceN_eq]
      rfl
    rw [e, bytesL_succ, List.map_cons]
    refine VRels.cons ?_ (byteCells_rel l _)
    simp only [VRel]
    simp [UInt8.toNat_ofNat']

/-- what is appended, or appended to -/
theorem xCells_rel {es : Nat} {x : CV} {x' : Value} {K : Nat → List CV → RV} {r : RV} (hx : VRel sy ρ x x') (hw : WRel sy G B w0 ρ st w) (hr : xCells es x st K = r) :
    (∃ k, r = .err k) ∨ ∃ n l l', K n l = r ∧ VRels sy ρ l l' ∧ l'.length = n * es ∧ (Builtin.lenOf x').run P w = .ok n w ∧ (∀ w1 : World, w1.heap = w.heap → (Builtin.firstCells es n x').run P w1 = .ok l'.toArray w1) ∧
      (∀ base m cp, x' = .slice (some base) m cp → ∀ c e fz, w.heap[base.block]? = some (.cells c e fz) → ∀ k : Nat, k < l'.length → c[base.off + k]? = l'[k]?) := by
  unfold xCells at hr
  cases x <;> try exact .inl ⟨_, hr.symm⟩
  · rename_i l n
    simp only at hr
    cases hb : Nat.beq es 1 with
    | false => rw [hb] at hr; exact .inl ⟨_, hr.symm⟩
    | true =>
      have he : es = 1 := Nat.eq_of_beq_eq_true hb
      subst he
      rw [hb] at hr
      simp only [VRel] at hx
      subst hx
      refine .inr ⟨l, _, _, hr, byteCells_rel l n, by simp [bytesL_length], by simp [Builtin.lenOf, bytesOf_size], fun w1 _ => ?_, fun _ _ _ h => by cases h⟩
      simp [Builtin.firstCells, bytesOf]
      rw [List.take_of_length_le (by simp [bytesL_length])]
  · rename_i b o l c q
    simp only [VRel] at hx
    obtain ⟨i, hi, rfl⟩ := hx
    simp only at hr
    cases hc : cellsAt b st with
    | none => rw [hc] at hr; exact .inl ⟨_, hr.symm⟩
    | some cells =>
      rw [hc] at hr
      simp only at hr
      cases hl : loadN cells (Nat.mul l es) o with
      | none => rw [hl] at hr; exact .inl ⟨_, hr.symm⟩
      | some cs =>
        rw [hl] at hr
        obtain ⟨i', c', e, fz, k1, k2, k3⟩ := cellsAt_rel hw hc
        rw [hi] at k1; cases k1
        obtain ⟨l', q1, q2, q3⟩ := loadN_rel k3 hl
        refine .inr ⟨l, cs, l', hr, q2, q1, by simp [Builtin.lenOf], fun w1 hw1 => ?_, fun base m cp hb c3 e3 fz3 h3 k hk => ?_⟩
        · have q1' : l * es = l'.length := q1.symm
          simp only [Builtin.firstCells]
          rw [q1']
          exact run_loadCells (by rw [hw1]; exact k2) l' (by rw [q1]; exact q3)
        · cases hb
          simp only at h3 ⊢
          rw [k2] at h3
          cases h3
          exact q3 k (by rw [← q1]; exact hk)
  · simp only [VRel] at hx
    subst hx
    exact .inr ⟨0, [], [], hr, VRels.nil, by simp, by simp [Builtin.lenOf], fun w1 _ => by simp [Builtin.firstCells], fun _ _ _ h => by cases h⟩

theorem append_call {c : Call} {x y : Operand} {t t2 : TypeId} (ho : o.op = .call c) (hc : c.callee = .builtin .append) (ha : c.args.toList = [x, y]) (ht : c.argTypes.toList = [t, t2]) :
    (execOp a.eval o).run P w = ((Builtin.append_ #[t, t2] o.type #[a.eval x, a.eval y]).run P w).andThen fun v w => .ok (.value v) w := by
  have ha' : c.args = #[x, y] := Array.toList_inj.1 (by simpa using ha)
  have ht' : c.argTypes = #[t, t2] := Array.toList_inj.1 (by simpa using ht)
  rw [builtin_call (s := do pure (.value (← Builtin.append_ #[t, t2] o.type #[a.eval x, a.eval y]))) ho hc (fun _ => by rw [ha', ht']; simp [builtin])]
  simp

theorem rowF_eq (cs : List CV) (es fr : Nat) (inf : Inf) (h : T Obj) (n : Nat) (d : List Dfr) (K : Nat → St → RV) :
    rowF cs es fr inf ⟨h, n, d⟩ K = K n ⟨T.set h (.row (rowOf cs 0 .nil) cs.length es fr inf) n, n + 1, d⟩ := by
  simp [rowF, forceN_eq, len_eq]

/-- a new row whose cells are given, in a block with more behind -/
theorem WRel.rowFr {h : T Obj} {n : Nat} {d : List Dfr} {cs : List CV} {vs : List Value} {es ext fr : Nat} {arr : Array Value} {elem : TypeId} {inf : Inf} {rest : List Value} (hw : WRel sy G B w0 ρ ⟨h, n, d⟩ w)
    (hv : VRels sy ρ cs vs) (ha : arr.toList = vs ++ rest) (hr : ext * es ≤ rest.length) (hinf : (∀ t, inf.ty = some t → elem = t) ∧ inf.wh = false) :
    WRel sy G B w0 (ρ.put n ⟨w.heap.size, 0, ext, es⟩) ⟨T.set h (.row (rowOf cs 0 .nil) cs.length es fr inf) n, n + 1, d⟩ (w.alloc (.cells arr elem)) := by
  refine hw.new rfl ⟨_, arr, elem, (0, 0), Ren.put_same _ _ _, hw.over, ⟨rfl, hinf.1, fun _ => rfl, fun h => (by rw [hinf.2] at h; cases h), fun _ => .inl rfl⟩, alloc_heap _ _, ?_, fun j v hj => ?_, fun j _ _ => by simp⟩
  · have h1 : arr.size = vs.length + rest.length := by rw [← Array.length_toList, ha]; simp
    have h2 := hv.length
    simp only
    omega
  · rw [rowOf_get] at hj
    by_cases hlt : 0 ≤ j ∧ j < 0 + cs.length
    · rw [if_pos hlt] at hj
      obtain ⟨v', h1, h2⟩ := hv.get (j - 0) v hj
      have hlt' : j < cs.length := by omega
      refine ⟨hlt', v', ?_, h2.mono sy (Ren.le_put hw.fresh)⟩
      show arr[j + 0]? = _
      rw [Nat.add_zero, ← Array.getElem?_toList, ha, List.getElem?_append_left (by rw [hv.length]; exact hlt')]
      simpa using h1
    · rw [if_neg hlt, T.get_nil] at hj; cases hj

/-- the same, where the block bears a frozen range -/
theorem WRel.rowFz {h : T Obj} {n : Nat} {d : List Dfr} {cs : List CV} {vs : List Value} {es ext fr : Nat} {arr : Array Value} {elem : TypeId} {fz : Nat × Nat} {inf : Inf} {rest : List Value} (hw : WRel sy G B w0 ρ ⟨h, n, d⟩ w)
    (hv : VRels sy ρ cs vs) (ha : arr.toList = vs ++ rest) (hr : ext * es ≤ rest.length) (hfz : ∀ j : Nat, j < cs.length + ext * es → ¬ (fz.1 ≤ j ∧ j < fz.2)) (hinf : inf = ⟨none, true, false, false⟩) :
    WRel sy G B w0 (ρ.put n ⟨w.heap.size, 0, ext, es⟩) ⟨T.set h (.row (rowOf cs 0 .nil) cs.length es fr inf) n, n + 1, d⟩ (w.alloc (.cells arr elem fz)) := by
  subst hinf
  refine hw.new rfl ⟨_, arr, elem, fz, Ren.put_same _ _ _, hw.over, ⟨rfl, fun _ h => (by cases h), fun _ => rfl, fun h => (by cases h), fun h => (by cases h)⟩, alloc_heap _ _, ?_, fun j v hj => ?_, fun j _ h => hfz j h⟩
  · have h1 : arr.size = vs.length + rest.length := by rw [← Array.length_toList, ha]; simp
    have h2 := hv.length
    simp only
    omega
  · rw [rowOf_get] at hj
    by_cases hlt : 0 ≤ j ∧ j < 0 + cs.length
    · rw [if_pos hlt] at hj
      obtain ⟨v', h1, h2⟩ := hv.get (j - 0) v hj
      have hlt' : j < cs.length := by omega
      refine ⟨hlt', v', ?_, h2.mono sy (Ren.le_put hw.fresh)⟩
      show arr[j + 0]? = _
      rw [Nat.add_zero, ← Array.getElem?_toList, ha, List.getElem?_append_left (by rw [hv.length]; exact hlt')]
      simpa using h1
    · rw [if_neg hlt, T.get_nil] at hj; cases hj

theorem WRel.drew' {w : World} (h : WRel sy G B w0 ρ st w) : WRel sy G B w0 ρ st w.drew := h.of_heap rfl rfl rfl rfl

/-- append to a new row -/
theorem grow_ok {c : Call} {x y : Operand} {t t2 e n es by_ fr : Nat} {inf : Inf} {z : Value} {base : Option Addr} {sLen sCap : Nat} {old new : List CV} {old' new' : List Value}
    (ho : o.op = .call c) (hc : c.callee = .builtin .append) (ha : c.args.toList = [x, y]) (ht : c.argTypes.toList = [t, t2])
    (hu : P.underlying t = some (.slice e)) (h2 : noInt P t2 = true) (hes : szOf P e = some es) (hby : byOf P e = some by_) (hz : ∀ w, (zeroValue e).run P w = .ok z w) (hzs : z.cells.size = es)
    (hx : a.eval x = .slice base sLen sCap) (hlen : (Builtin.lenOf (a.eval y)).run P w = .ok n w)
    (hnew : ∀ w1 : World, w1.heap = w.heap → (Builtin.firstCells es n (a.eval y)).run P w1 = .ok new'.toArray w1)
    (hold : ∀ w1 : World, w1.heap = w.heap → (Builtin.firstCells es sLen (.slice base sLen sCap)).run P w1 = .ok old'.toArray w1)
    (hlt : sCap < sLen + n) (hroom : roomFor (sLen + n) by_ = true) (ro : VRels sy ρ old old') (rn : VRels sy ρ new new')
    (hinf : (∀ t, inf.ty = some t → e = t) ∧ inf.wh = false) (hd : DRel sy ρ st.dfs a.defers) (hw : WRel sy G B w0 ρ st w) :
    OpRes sy G B w0 P ρ a o w (appendNew es fr inf old new (sLen + n) st) := by
  obtain ⟨cap, rest, hcap, hrs, hrun⟩ := run_append_grow (ty := o.type) (x := a.eval y) hu h2 hes hby hz hzs hlen (hnew _ rfl) hlt (hold _ rfl) hroom
  obtain ⟨h, nx, d⟩ := st
  unfold appendNew
  rw [rowF_eq]
  have hw1 := (hw.drew').rowFr (arr := old'.toArray ++ new'.toArray ++ rest) (vs := old' ++ new') (rest := rest.toList) (ext := cap - (sLen + n)) (es := es) (fr := fr) (elem := e) (ro.append rn) (by simp) (by simp [hrs]) hinf
  refine ok_val (v' := .slice (some ⟨w.heap.size, 0, none⟩) (sLen + n) cap) ?_ (Ren.le_put hw.fresh) ?_ hw1 hd
  · rw [append_call ho hc ha ht, hx, hrun]
    rfl
  · simp only [VRel]
    refine ⟨_, Ren.put_same _ _ _, ?_⟩
    simp only [if_true, Nat.zero_add]
    rw [show sLen + n + (cap - (sLen + n)) = cap by omega]
    rfl
end
end Go.Proofs.YtbmbjaogcmokoaaGreatDoorX

namespace Go.Proofs.YtbmbjaogcmokoaaGreatDoorX
open Go Go.RowKit
set_option linter.unusedVariables false

section
variable {sy : Sy} {G : Nat} {B : Kp} {w0 : World} {P : Program} {ρ ρ' : Ren} {cx : Cx} {env : List CV} {loc : Loc} {a : Act} {st st' : St} {w w' : World} {o : Oper} {call : Caller}

theorem isU8_spec {e : Nat} (h : isU8 P e = true) : P.underlying e = some (.int .u8) := by
  unfold isU8 at h
  cases hu : P.underlying e with
  | none => rw [hu] at h; cases h
  | some d =>
    rw [hu] at h
    cases d <;> simp at h
    rw [h]
theorem packC_rel : ∀ (cs : List CV) (vs : List Value) (K : Nat → RV) (r : RV), VRels sy ρ cs vs → packC cs K = r → (∃ k, r = .err k) ∨ ∃ n, K n = r ∧ vs = (bytesL cs.length n).map fun b => Value.int .u8 b.toNat
  | [], vs, K, r, h, hr => by
    simp only [VRels] at h
    subst h
    exact .inr ⟨0, hr, rfl⟩
  | c :: cs, vs, K, r, h, hr => by
    simp only [VRels] at h
    obtain ⟨y, s, rfl, hy, hs⟩ := h
    unfold packC at hr
    cases c <;> try exact .inl ⟨_, hr.symm⟩
    rename_i k v
    cases v with
    | negSucc m => exact .inl ⟨_, hr.symm⟩
    | ofNat m =>
      simp only at hr
      cases hb : decide (k = .u8) && Nat.blt m 256 with
      | false => rw [hb] at hr; exact .inl ⟨_, hr.symm⟩
      | true =>
        rw [hb] at hr
        simp only [cond_true] at hr
        rw [Bool.and_eq_true] at hb
        obtain ⟨h1, h2⟩ := hb
        have hk : k = .u8 := of_decide_eq_true h1
        have hm : m < 256 := by simpa [Nat.blt_eq] using h2
        subst hk
        rcases packC_rel cs s (fun r => forceN K (Nat.add m (Nat.mul 256 r))) r hs hr with h | ⟨n, h1, h2⟩
        · exact .inl h
        · refine .inr ⟨m + 256 * n, ?_, ?_⟩
          · rw [← h1]; show _ = forceN K _; rw [forceN_eq]; rfl
          · simp only [VRel] at hy
            subst hy
            rw [List.length_cons, bytesL_succ, List.map_cons]
            rw [show (m + 256 * n) / 256 = n by omega, h2]
            congr 1
            have : (UInt8.ofNat (m + 256 * n)).toNat = m := by simp [UInt8.toNat_ofNat']; omega
            first
              | rw [this]; rfl
              | simp [UInt8.toNat_ofNat']; omega

theorem run_pushBytes {P : Program} {w : World} : ∀ (l : List UInt8) (s : ByteArray), (forIn (m := Sem) (l.map fun b => Value.int .u8 b.toNat) s fun c r => match c with
      | Value.int IntKind.u8 n => pure (ForInStep.yield (r.push (UInt8.ofNat n.toNat)))
      | x => do
        stuck "bytesToString: byte expected"
        pure (ForInStep.yield r)).run P w = .ok ⟨s.data ++ l.toArray⟩ w
  | [], s => by simp
  | b :: l, s => by
    rw [List.map_cons, List.forIn_cons]
    simp only [Sem.run_bind, Sem.run_pure, Result.andThen]
    rw [run_pushBytes l]
    simp [ByteArray.push]

theorem run_bytesToString {base : Addr} {l cp n : Nat} (h : (loadCells base l).run P w = .ok ((bytesL l n).map fun b => Value.int .u8 b.toNat).toArray w) : (Conv.bytesToString (.slice (some base) l cp)).run P w = .ok (.string (bytesOf l n)) w := by
  unfold Conv.bytesToString
  simp only [Sem.run_bind, h, Result.andThen]
  rw [List.forIn_toArray]
  have := run_pushBytes (P := P) (w := w) (bytesL l n) ByteArray.empty
  rw [show (ByteArray.empty.data ++ (bytesL l n).toArray) = (bytesL l n).toArray from Array.empty_append] at this
  erw [this]
  rfl

theorem strOf_rel {x : CV} {x' : Value} {K : Nat → Nat → RV} {r : RV} (hx : VRel sy ρ x x') (hr : strOf x K = r) : (∃ k, r = .err k) ∨ ∃ l n, K l n = r ∧ x' = .string (bytesOf l n) := by
  unfold strOf at hr
  cases x <;> try exact .inl ⟨_, hr.symm⟩
  simp only [VRel] at hx
  exact .inr ⟨_, _, hr, hx⟩

theorem bytesOfStr_ok {s t e : TypeId} {x : Operand} {d1 : TypeDesc} (ho : o.op = .convert s t x) (h1 : P.underlying s = some d1) (h2 : P.underlying t = some (.slice e)) (h3 : P.underlying e = some (.int .u8)) {u : CV} (hx : VRel sy ρ u (a.eval x))
    (hd : DRel sy ρ st.dfs a.defers) (hw : WRel sy G B w0 ρ st w) : OpRes sy G B w0 P ρ a o w (bytesOfStr u st) := by
  rcases strOf_rel hx (rfl : bytesOfStr u st = _) with ⟨k, h⟩ | ⟨l, n, h, hs⟩
  · rw [h]; exact trivial
  · rw [← h]
    obtain ⟨hp, nx, d⟩ := st
    rw [rowF_eq]
    have hsz : (bytesOf l n).size = l := bytesOf_size l n
    have hdat : (bytesOf l n).data.toList = bytesL l n := by simp [bytesOf]
    have hcap : l ≤ grownCap w l 0 e := by
      unfold grownCap
      exact Nat.le_add_right _ _
    have hrun := Lib.run_convert_string_bytes w s t e (bytesOf l n) h1 h2 h3
    rw [hsz] at hrun
    have hbc : (Lib.bytesCells w e (bytesOf l n)).toList = ((bytesL l n).map fun b => Value.int .u8 b.toNat) ++ List.replicate (grownCap w l 0 e - l) (.int .u8 0) := by
      unfold Lib.bytesCells
      rw [Array.toList_append, Array.toList_map, hdat, Array.toList_replicate, hsz]
    generalize grownCap w l 0 e = cap at *
    have hbs : (Lib.bytesCells w e (bytesOf l n)).size = cap := by
      rw [← Array.length_toList, hbc]
      simp [bytesL_length]
      omega
    have hv := byteCells_rel (sy := sy) (ρ := ρ) l n
    have hlen : (byteCells l n).length = l := by rw [← hv.length]; simp [bytesL_length]
    have hw1 := (hw.drew').rowFz (cs := byteCells l n) (arr := Lib.bytesCells w e (bytesOf l n)) (vs := (bytesL l n).map fun b => .int .u8 b.toNat) (rest := List.replicate (cap - l) (.int .u8 0)) (ext := cap - l) (es := 1) (fr := 0) (elem := e) (fz := (cap, cap + 1)) hv hbc (by simp)
      (fun j h => by rw [hlen] at h; simp only; omega) rfl
    have hheap : (Lib.bytesWorld w e (bytesOf l n)).heap = (w.drew.alloc (.cells (Lib.bytesCells w e (bytesOf l n)) e (cap, cap + 1))).heap := by
      apply Array.ext_getElem?
      intro j
      rcases Nat.lt_trichotomy j w.heap.size with hj | hj | hj
      · rw [Lib.bytesWorld_at_old w e _ j hj]
        simp [World.alloc, World.drew, Array.getElem?_push, -World.alloc_eq, -World.drew_eq]
        intro h; omega
      · subst hj
        rw [Lib.bytesWorld_at_new, hbs]
        simp [World.alloc, World.drew, -World.alloc_eq, -World.drew_eq]
      · rw [Array.getElem?_eq_none (by rw [Lib.bytesWorld_size]; omega), Array.getElem?_eq_none (by simp [World.alloc, World.drew, -World.alloc_eq, -World.drew_eq]; omega)]
    have hw2 := hw1.of_heap (w' := Lib.bytesWorld w e (bytesOf l n)) hheap rfl rfl rfl
    refine ok_val (v' := .slice (some ⟨w.heap.size, 0, none⟩) l cap) ?_ (Ren.le_put hw.fresh) ?_ hw2 hd
    · simp [execOp, ho, hs, hrun]
    · simp only [VRel]
      refine ⟨_, Ren.put_same _ _ _, ?_⟩
      simp only [if_true, Nat.zero_add]
      rw [show l + (cap - l) = cap by omega]
      rfl

theorem strOfBytes_ok {s t e : TypeId} {x : Operand} (ho : o.op = .convert s t x) (h1 : P.underlying s = some (.slice e)) (h2 : P.underlying t = some .string) (h3 : P.underlying e = some (.int .u8)) {u : CV} (hx : VRel sy ρ u (a.eval x))
    (hd : DRel sy ρ st.dfs a.defers) (hw : WRel sy G B w0 ρ st w) : OpRes sy G B w0 P ρ a o w (strOfBytes u st) := by
  have hconv : ∀ v, (Conv.bytesToString (a.eval x)).run P w = .ok v w → (execOp a.eval o).run P w = .ok (.value v) w := fun v h => by
    have : (convert s t (a.eval x)).run P w = .ok v w := by
      simp only [convert, Sem.run_bind, run_under h1, run_under h2, Result.andThen]
      generalize a.eval x = y at h
      cases y <;> simp [run_under h3, Conv.bytesToString] at h ⊢ <;> first | exact h | skip
    simp [execOp, ho, this]
  unfold strOfBytes
  cases u <;> try exact trivial
  · rename_i b of l c q
    simp only
    cases hc : cellsAt b st with
    | none => exact trivial
    | some cells =>
      simp only
      cases hl : loadN cells l of with
      | none => exact trivial
      | some cs =>
        simp only
        simp only [VRel] at hx
        obtain ⟨i, hi, he⟩ := hx
        obtain ⟨i', c', e', fz, k1, k2, k3⟩ := cellsAt_rel hw hc
        rw [hi] at k1; cases k1
        obtain ⟨l', q1, q2, q3⟩ := loadN_rel k3 hl
        rcases packC_rel cs l' _ _ q2 rfl with ⟨k, h⟩ | ⟨n, h, hv⟩
        · rw [h]; exact trivial
        · rw [← h]
          have hcl : cs.length = l := by rw [← q2.length]; exact q1
          rw [hcl] at hv
          refine pure_val (v' := .string (bytesOf l n)) (hconv _ ?_) hw hd (by simp only [VRel])
          rw [he]
          refine run_bytesToString ?_
          rw [← hv]
          have := run_loadCells (P := P) (b := i.blk) (o := of + i.sh) k2 l' (by rw [q1]; exact q3)
          rw [q1] at this
          exact this
  · simp only [VRel] at hx
    refine pure_val (v' := .string (bytesOf 0 0)) (hconv _ ?_) hw hd (by simp only [VRel])
    rw [hx]
    simp [Conv.bytesToString, bytesOf, bytesL]
    rfl

theorem viewAt_row {b : Nat} {c : Array Value} {e : TypeId} {fz : Nat × Nat} (h : w.heap[b]? = some (.cells c e fz)) : (viewAt b).run P w = .ok none w := by
  have : w.shape? b = some (e, c.size) := by simp [World.shape?, h]
  simp [viewAt, this]
theorem seenAt_row {b o : Nat} {c : Array Value} {e : TypeId} {fz : Nat × Nat} (h : w.heap[b]? = some (.cells c e fz)) : (Conv.seenAt ⟨b, o, none⟩).run P w = .ok ⟨b, o, none⟩ w := by
  unfold Conv.seenAt
  simp [viewAt_row h]

theorem ptrSize_spec {t n : Nat} (h : ptrSize P t = some n) : ∃ e, P.underlying t = some (.pointer e) ∧ szOf P e = some n := by
  unfold ptrSize at h
  cases hu : P.underlying t with
  | none => rw [hu] at h; cases h
  | some d =>
    rw [hu] at h
    cases d <;> simp only at h <;> try (cases h; done)
    exact ⟨_, rfl, h⟩
theorem isUnsafe_spec {t : Nat} (h : isUnsafe P t = true) : P.underlying t = some .unsafePointer := by
  unfold isUnsafe at h
  cases hu : P.underlying t with
  | none => rw [hu] at h; cases h
  | some d =>
    rw [hu] at h
    cases d <;> simp only at h <;> first | rfl | cases h

theorem toUnsafe_ok {s t n : Nat} {x : Operand} (ho : o.op = .convert s t x) (h1 : ptrSize P s = some n) (hn : n ≠ 0) (h2 : P.underlying t = some .unsafePointer) {u : CV} (hx : VRel sy ρ u (a.eval x))
    (hd : DRel sy ρ st.dfs a.defers) (hw : WRel sy G B w0 ρ st w) : OpRes sy G B w0 P ρ a o w (toUnsafe u st) := by
  obtain ⟨e, h3, h4⟩ := ptrSize_spec h1
  have hconv : ∀ p, a.eval x = .pointer p → (convert s t (a.eval x)).run P w = (Conv.unsafePointer s t (a.eval x)).run P w := fun p e => by
    rw [e]
    simp only [convert, Sem.run_bind, run_under h3, run_under h2, Result.andThen]
  unfold toUnsafe
  cases u <;> try exact trivial
  · rename_i b of
    simp only
    cases hg : st.heap.get b with
    | none => exact trivial
    | some ob =>
      simp only
      cases ob <;> try exact trivial
      rename_i cells m es fr inf
      simp only
      cases hlt : Nat.blt of m with
      | false => exact trivial
      | true =>
        have hlt' : of < m := by simpa [Nat.blt_eq] using hlt
        obtain ⟨i, c, e', fz, k1, k2, k3, k4, k5, _⟩ := hw.obj b _ hg
        have hx' := hx
        simp only [VRel] at hx
        obtain ⟨i', q1, q2⟩ := hx
        rw [k1] at q1; cases q1
        refine pure_val (v' := a.eval x) ?_ hw hd hx'
        have hsh : w.shape? i.blk = some (e', c.size) := by simp [World.shape?, k4]
        have hge : ¬ c.size ≤ of + i.sh := by omega
        have : (convert s t (a.eval x)).run P w = .ok (a.eval x) w := by
          rw [hconv _ q2, q2]
          simp only [Conv.unsafePointer, Sem.run_bind, run_under h3, run_under h2, Result.andThen, seenAt_row k4, cellsIn]
          simp [hsh, run_size h4, hn, hge]
        simp [execOp, ho, this]
  · have hx' := hx
    simp only [VRel] at hx
    refine pure_val (v' := a.eval x) ?_ hw hd hx'
    have : (convert s t (a.eval x)).run P w = .ok (a.eval x) w := by
      rw [hconv _ hx, hx]
      simp [Conv.unsafePointer, run_under h3, run_under h2]
    simp [execOp, ho, this]

theorem fromUnsafe_ok {s t u0 k : Nat} {x : Operand} (ho : o.op = .convert s t x) (h1 : P.underlying s = some .unsafePointer) (h2 : P.underlying t = some (.pointer u0)) (h3 : szOf P u0 = some k) {u : CV} (hx : VRel sy ρ u (a.eval x))
    (hd : DRel sy ρ st.dfs a.defers) (hw : WRel sy G B w0 ρ st w) : OpRes sy G B w0 P ρ a o w (fromUnsafe P u0 u st) := by
  have hconv : ∀ p, a.eval x = .pointer p → (convert s t (a.eval x)).run P w = (Conv.unsafePointer s t (a.eval x)).run P w := fun p e => by
    rw [e]
    simp only [convert, Sem.run_bind, run_under h1, run_under h2, Result.andThen]
  unfold fromUnsafe
  cases u <;> try exact trivial
  · rename_i b of
    simp only
    cases hg : st.heap.get b with
    | none => exact trivial
    | some ob =>
      simp only
      cases ob <;> try exact trivial
      rename_i cells m es fr inf
      simp only
      cases hty : inf.ty with
      | none => exact trivial
      | some t' =>
        simp only
        cases hc : inf.z && (inf.wh && lies P t' m of u0) with
        | false => exact trivial
        | true =>
          rw [Bool.and_eq_true, Bool.and_eq_true] at hc
          obtain ⟨c1, c2, c3⟩ := hc
          obtain ⟨i, c, e', fz, k1, k2, k3, k4, k5, _⟩ := hw.obj b _ hg
          have z1 := k3.2.1 t' hty
          have z2 := k3.2.2.1 c1
          have z3 := k3.2.2.2.1 c2
          subst z1
          have hx' := hx
          simp only [VRel] at hx
          obtain ⟨i', q1, q2⟩ := hx
          rw [k1] at q1; cases q1
          refine pure_val (v' := a.eval x) ?_ hw hd hx'
          have hsh : w.shape? i.blk = some (e', m) := by simp [World.shape?, k4, z3]
          have hl : liesAt P P.depth e' (m / P.cellsOf e') of u0 1 = true := c3
          have : (convert s t (a.eval x)).run P w = .ok (a.eval x) w := by
            rw [hconv _ q2, q2, z2]
            simp only [Conv.unsafePointer, Sem.run_bind, run_under h1, run_under h2, Result.andThen, seenAt_row k4, variablesAt, run_size h3]
            simp [hsh, hl]
          simp [execOp, ho, this]
  · have hx' := hx
    simp only [VRel] at hx
    refine pure_val (v' := a.eval x) ?_ hw hd hx'
    have : (convert s t (a.eval x)).run P w = .ok (a.eval x) w := by
      rw [hconv _ hx, hx]
      simp [Conv.unsafePointer, run_under h1, run_under h2]
    simp [execOp, ho, this]

theorem convert_ok {s t : TypeId} {x : Operand} (ho : o.op = .convert s t x) (hs : SR sy G cx ρ env loc a) (hd : DRel sy ρ st.dfs a.defers) (hw : WRel sy G B w0 ρ st w) :
    OpRes sy G B w0 P ρ a o w ((oConvert P s t (ev cx x)).f call env loc st) := by
  have hx := evRel hs hw x
  unfold oConvert
  cases h1 : P.underlying s with
  | none => exact trivial
  | some d1 =>
    cases h2 : P.underlying t with
    | none => exact trivial
    | some d2 =>
      simp only
      cases d2 <;> try exact trivial
      · simp only
        generalize (ev cx x).f env loc = u at *
        cases u <;> try exact trivial
        rename_i k' k n
        simp only [VRel] at hx
        simp only
        rw [intV_eq]
        refine pure_val (v' := .int k' (k'.wrap n)) ?_ hw hd (by simp only [VRel])
        simp [execOp, ho, hx, convert, run_under h1, run_under h2, Conv.intToInt]
      · simp only
        cases h3 : elemOfSlice P s with
        | some e =>
          simp only
          cases h4 : isU8 P e with
          | false => exact trivial
          | true => exact strOfBytes_ok ho (elemOfSlice_spec h3) h2 (isU8_spec h4) hx hd hw
        | none =>
          simp only
          generalize (ev cx x).f env loc = u at *
          cases u <;> try exact trivial
          · have hx' := hx
            simp only [VRel] at hx
            exact pure_val (v' := a.eval x) (by simp [execOp, ho, hx, convert, run_under h1, run_under h2]) hw hd hx'
          · have hx' := hx
            simp only [VRel] at hx
            exact pure_val (v' := a.eval x) (by simp [execOp, ho, hx, convert, run_under h1, run_under h2]) hw hd hx'
      · simp only
        cases h3 : ptrSize P s with
        | none => exact trivial
        | some n =>
          simp only
          cases h4 : Nat.beq n 0 with
          | true => exact trivial
          | false => exact toUnsafe_ok ho h3 (fun h => by rw [h] at h4; cases h4) h2 hx hd hw
      · rename_i u0
        simp only
        cases h3 : isUnsafe P s with
        | false => exact trivial
        | true =>
          cases h4 : szOf P u0 with
          | none => exact trivial
          | some k => exact fromUnsafe_ok ho (isUnsafe_spec h3) h2 h4 hx hd hw
      · rename_i e
        simp only
        cases h4 : isU8 P e with
        | false => exact trivial
        | true => exact bytesOfStr_ok ho h1 h2 (isU8_spec h4) hx hd hw

end
end Go.Proofs.YtbmbjaogcmokoaaGreatDoorX
