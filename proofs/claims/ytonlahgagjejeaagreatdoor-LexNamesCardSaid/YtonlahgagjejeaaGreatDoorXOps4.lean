/- Operations: what the executor says of one, the model does (4: integers, strings, comparisons). -/
import Derived.Test.YtonlahgagjejeaaGreatDoorXOps3
import Derived.WideLaws
import Derived.WalkSpells
namespace Go.Proofs.YtonlahgagjejeaaGreatDoorX
open Go Go.RowKit
set_option linter.unusedVariables false

section
variable {sy : Nat → ByteArray} {G B : Nat} {w0 : World} {P : Program} {ρ ρ' : Ren} {cx : Cx} {env : List CV} {loc : Loc} {a : Act} {st st' : St} {w w' : World} {o : Oper} {call : Caller}

theorem intV_eq (k : IntKind) (n : Int) (st : St) : intV k n st = .ok (.int k (k.wrap n)) st := by simp [intV, forceI_eq]

/-- an answer without a change of the state: an error, or the value that the model's operation gives -/
def Same (sy : Nat → ByteArray) (ρ : Ren) (P : Program) (st : St) (w : World) (s : Sem Value) (r : RV) : Prop :=
  (∃ k, r = .err k) ∨ ∃ v v', r = .ok v st ∧ VRel sy ρ v v' ∧ s.run P w = .ok v' w

theorem same_int {k : IntKind} {n : Int} {s : Sem Value} (h : s = pure (.int k (k.wrap n))) : Same sy ρ P st w s (intV k n st) :=
  .inr ⟨_, .int k (k.wrap n), intV_eq _ _ _, by simp only [VRel], by rw [h]; rfl⟩
theorem same_int' {k : IntKind} {n : Int} {s : Sem Value} (h : s = pure (.int k n)) : Same sy ρ P st w s (forceI (fun m => .ok (.int k m) st) n) :=
  .inr ⟨_, .int k n, forceI_eq _ _, by simp only [VRel], by rw [h]; rfl⟩
theorem same_bool {b : Bool} {s : Sem Value} (h : s = pure (.bool b)) : Same sy ρ P st w s (.ok (.bool b) st) :=
  .inr ⟨_, .bool b, rfl, by simp only [VRel], by rw [h]; rfl⟩

theorem binInt_same (op : BinOp) (t : TypeId) (k : IntKind) (x y : Int) : isShift op = false → Same sy ρ P st w (Go.binOp op t (.int k x) (.int k y)) ((binInt op).f k x y st) := by
  intro hns
  cases op <;> simp [isShift] at hns
  case add => exact same_int (by simp [Go.binOp, Op.intArith])
  case sub => exact same_int (by simp [Go.binOp, Op.intArith]; rfl)
  case mul => exact same_int (by simp [Go.binOp, Op.intArith])
  case quo =>
    unfold binInt
    simp only
    cases h : decide (y = 0) with
    | true => exact .inl ⟨_, rfl⟩
    | false =>
      have hy : y ≠ 0 := of_decide_eq_false h
      exact same_int (by simp [Go.binOp, Op.intDiv, hy])
  case rem =>
    unfold binInt
    simp only
    cases h : decide (y = 0) with
    | true => exact .inl ⟨_, rfl⟩
    | false =>
      have hy : y ≠ 0 := of_decide_eq_false h
      exact same_int' (by simp [Go.binOp, Op.intDiv, hy])
  case and => exact same_int (by simp [Go.binOp, Op.intBits])
  case or => exact same_int (by simp [Go.binOp, Op.intBits])
  case xor => exact same_int (by simp [Go.binOp, Op.intBits])
  case andNot => exact same_int (by simp [Go.binOp, Op.intBits])
  case eql => exact same_bool (by simp [Go.binOp, Op.intCmp])
  case neq => exact same_bool (by simp [Go.binOp, Op.intCmp])
  case lss => exact same_bool (by simp [Go.binOp, Op.intCmp])
  case leq => exact same_bool (by simp [Go.binOp, Op.intCmp])
  case gtr => exact same_bool (by simp [Go.binOp, Op.intCmp])
  case geq => exact same_bool (by simp [Go.binOp, Op.intCmp])

theorem shiftInt_same (op : BinOp) (t : TypeId) (k k' : IntKind) (x y : Int) : isShift op = true → Same sy ρ P st w (Go.binOp op t (.int k x) (.int k' y)) ((shiftInt op).f k x y st) := by
  intro hns
  have hpow : ∀ n : Nat, Int.ofNat (Nat.pow 2 n) = (2 : Int) ^ n := fun n => by
    show ((2 ^ n : Nat) : Int) = _
    simp
  cases op <;> simp [isShift] at hns
  case shl =>
    cases y with
    | negSucc m => exact .inl ⟨_, rfl⟩
    | ofNat n =>
      unfold shiftInt
      simp only [hpow]
      have hn : ¬ ((n : Int) < 0) := by omega
      exact same_int (by simp [Go.binOp, Op.shift, hn])
  case shr =>
    cases y with
    | negSucc m => exact .inl ⟨_, rfl⟩
    | ofNat n =>
      unfold shiftInt
      simp only [hpow]
      have hn : ¬ ((n : Int) < 0) := by omega
      exact same_int' (by simp [Go.binOp, Op.shift, hn])

theorem binStr_same (op : BinOp) (t : TypeId) (l n m k : Nat) : Same sy ρ P st w (Go.binOp op t (.string (bytesOf l n)) (.string (bytesOf m k))) ((binStr op).f l n m k st) := by
  cases op <;> try exact .inl ⟨_, rfl⟩
  case add =>
    unfold binStr
    simp only
    cases hc : Nat.ble (Nat.add l m) 4294967296 with
    | false => exact .inl ⟨_, rfl⟩
    | true =>
      have hle : l + m ≤ 4294967296 := by simpa [Nat.ble_eq] using hc
      refine .inr ⟨.str (Nat.add l m) (Nat.add (low l n) (Nat.shiftLeft k (Nat.mul 8 l))), _, by simp [strV, forceN_eq], (by simp only [VRel]; rfl), ?_⟩
      rw [← bytesOf_append]
      simp only [Go.binOp, Op.stringOp, bytesOf_size]
      rw [if_neg (by simp [IntKind.max, IntKind.signed, IntKind.bits]; omega)]
      rfl
  case eql =>
    unfold binStr
    simp only [eqStr_eq]
    exact same_bool (by simp [Go.binOp, Op.stringOp])
  case neq =>
    unfold binStr
    simp only [eqStr_eq]
    exact same_bool (by simp [Go.binOp, Op.stringOp])

theorem guardK_ok {kd n : Nat} {r r' : RV} (h : guardK kd n r = r') : (∃ k, r' = .err k) ∨ (kd = n ∧ r = r') := by
  unfold guardK at h
  cases hb : Nat.beq kd n with
  | false => rw [hb] at h; exact .inl ⟨_, h.symm⟩
  | true => rw [hb] at h; exact .inr ⟨Nat.eq_of_beq_eq_true hb, h⟩

theorem kindOf_spec {t n : Nat} (h : kindOf P t = n) : match n with
    | 1 => P.underlying t = some .bool
    | 2 => ∃ e m, P.underlying t = some (.pointer e) ∧ szOf P e = some m ∧ m ≠ 0
    | 3 => ∃ e, P.underlying t = some (.slice e)
    | 4 => ∃ k e, P.underlying t = some (.map k e)
    | 5 => ∃ x y z, P.underlying t = some (.func x y z)
    | 6 => ∃ x, P.underlying t = some (.interface x)
    | _ => True := by
  unfold kindOf at h
  split at h
  · rename_i d hu
    split at h
    · subst h; exact hu
    · rename_i e
      split at h
      · rename_i m hm
        cases hb : Nat.beq m 0 with
        | true => rw [hb] at h; subst h; trivial
        | false => rw [hb] at h; subst h; exact ⟨e, m, hu, hm, fun e => by subst e; cases hb⟩
      · subst h; trivial
    · subst h; exact ⟨_, hu⟩
    · subst h; exact ⟨_, _, hu⟩
    · subst h; exact ⟨_, _, _, hu⟩
    · subst h; exact ⟨_, hu⟩
    · subst h; trivial
  · subst h; trivial

def plainPair : Value → Value → Bool
  | .nilIface, .nilIface => false
  | .agg _, .agg _ => false
  | _, _ => true
theorem guard_plain (op : BinOp) (t : TypeId) (p q : Operand) (x' y' : Value) (hne : plainPair x' y' = true) :
    (eqGuard op t p q x' y').run P w = .ok () w := by
  have hM : ∀ {M : Sem Unit} (c : Bool), M.run P w = .ok () w → (if c = true then (pure () : Sem Unit) else M).run P w = .ok () w := by
    intro M c h
    cases c
    · exact h
    · rfl
  unfold eqGuard
  refine hM _ ?_
  cases x' <;> cases y' <;> first | (cases hne; done) | rfl

/-- '==' at whatever depth is left -/
theorem equal_at {t : Nat} {x y : Value} {b : Bool} (h : ∀ d, (Op.equalIn (d + 1) t x y).run P w = .ok b w) : (Op.equal t x y).run P w = .ok b w := h 9999

/-- the two operands of '==' -/
theorem equal_ok {t : Nat} {x y : CV} {x' y' : Value} {lit : Bool} {p q : Operand} (hl : lit = true → isLit p = true ∨ isLit q = true) {K : Bool → RV} {r : RV} (hx : VRel sy ρ x x') (hy : VRel sy ρ y y') (hr : eqNil (kindOf P t) lit x y K = r) :
    (∃ k, r = .err k) ∨ ∃ b, K b = r ∧ (Op.equal t x' y').run P w = .ok b w ∧ (∀ op : BinOp, (eqGuard op t p q x' y').run P w = .ok () w) ∧
      Go.binOp .eql t x' y' = (do pure (.bool (← Op.equal t x' y'))) ∧ Go.binOp .neq t x' y' = (do pure (.bool (!(← Op.equal t x' y')))) := by
  have key : ∀ {n : Nat} {b : Bool}, guardK (kindOf P t) n (K b) = r → (kindOf P t = n → (Op.equal t x' y').run P w = .ok b w) →
      (∀ op : BinOp, (eqGuard op t p q x' y').run P w = .ok () w) →
      Go.binOp .eql t x' y' = (do pure (.bool (← Op.equal t x' y'))) → Go.binOp .neq t x' y' = (do pure (.bool (!(← Op.equal t x' y')))) →
      (∃ k, r = .err k) ∨ ∃ b, K b = r ∧ (Op.equal t x' y').run P w = .ok b w ∧ (∀ op : BinOp, (eqGuard op t p q x' y').run P w = .ok () w) ∧
        Go.binOp .eql t x' y' = (do pure (.bool (← Op.equal t x' y'))) ∧ Go.binOp .neq t x' y' = (do pure (.bool (!(← Op.equal t x' y')))) := by
    intro n b h1 h2 h3 h4 h5
    rcases guardK_ok h1 with h | ⟨h, h'⟩
    · exact .inl h
    · exact .inr ⟨b, h', h2 h, h3, h4, h5⟩
  have guard0 : (∀ (op : BinOp), plainPair x' y' = true → (eqGuard op t p q x' y').run P w = .ok () w) :=
    fun op hne => guard_plain op t p q x' y' hne
  cases x <;> cases y <;> simp only [eqNil] at hr <;> try exact .inl ⟨_, hr.symm⟩
  case bool.bool a b =>
    simp only [VRel] at hx hy; subst hx; subst hy
    refine key hr (fun h => ?_) (fun op => guard0 op rfl) rfl rfl
    have hu := kindOf_spec h
    exact equal_at fun d => by simp [Op.equalIn, run_under hu]
  case ptr.ptr b o b' o' =>
    cases hb : Nat.beq b b' with
    | false => rw [hb] at hr; exact .inl ⟨_, hr.symm⟩
    | true =>
      rw [hb] at hr
      have hbb : b = b' := Nat.eq_of_beq_eq_true hb
      subst hbb
      simp only [VRel] at hx hy
      obtain ⟨i, hi, rfl⟩ := hx
      obtain ⟨i', hi', rfl⟩ := hy
      rw [hi] at hi'; cases hi'
      refine key hr (fun h => ?_) (fun op => guard0 op rfl) rfl rfl
      obtain ⟨e, m, hu, hm, hm0⟩ := kindOf_spec h
      have e1 : ((⟨i.blk, o + i.sh, none⟩ : Addr) == ⟨i.blk, o' + i.sh, none⟩) = Nat.beq o o' := by
        apply Bool.eq_iff_iff.2
        simp [Nat.beq_eq]
      refine equal_at fun d => ?_
      simp only [Op.equalIn, Sem.run_bind, run_under hu, Result.andThen, run_size hm]
      rw [if_pos hm0]
      simp [sameAddr, e1]
  case ptr.nilp =>
    simp only [VRel] at hx hy; obtain ⟨i, hi, rfl⟩ := hx; subst hy
    refine key hr (fun h => ?_) (fun op => guard0 op rfl) rfl rfl
    obtain ⟨e, m, hu, _⟩ := kindOf_spec h
    exact equal_at fun d => by simp [Op.equalIn, run_under hu]
  case nilp.ptr =>
    simp only [VRel] at hx hy; obtain ⟨i, hi, rfl⟩ := hy; subst hx
    refine key hr (fun h => ?_) (fun op => guard0 op rfl) rfl rfl
    obtain ⟨e, m, hu, _⟩ := kindOf_spec h
    exact equal_at fun d => by simp [Op.equalIn, run_under hu]
  case nilp.nilp =>
    simp only [VRel] at hx hy; subst hx; subst hy
    refine key hr (fun h => ?_) (fun op => guard0 op rfl) rfl rfl
    obtain ⟨e, m, hu, _⟩ := kindOf_spec h
    exact equal_at fun d => by simp [Op.equalIn, run_under hu]
  case slice.nils =>
    simp only [VRel] at hx hy; obtain ⟨i, hi, rfl⟩ := hx; subst hy
    refine key hr (fun h => ?_) (fun op => guard0 op rfl) rfl rfl
    obtain ⟨e, hu⟩ := kindOf_spec h
    exact equal_at fun d => by simp [Op.equalIn, run_under hu]
  case nils.slice =>
    simp only [VRel] at hx hy; obtain ⟨i, hi, rfl⟩ := hy; subst hx
    refine key hr (fun h => ?_) (fun op => guard0 op rfl) rfl rfl
    obtain ⟨e, hu⟩ := kindOf_spec h
    exact equal_at fun d => by simp [Op.equalIn, run_under hu]
  case nils.nils =>
    simp only [VRel] at hx hy; subst hx; subst hy
    refine key hr (fun h => ?_) (fun op => guard0 op rfl) rfl rfl
    obtain ⟨e, hu⟩ := kindOf_spec h
    exact equal_at fun d => by simp [Op.equalIn, run_under hu]
  case map.nilm =>
    simp only [VRel] at hx hy; obtain ⟨i, hi, rfl⟩ := hx; subst hy
    refine key hr (fun h => ?_) (fun op => guard0 op rfl) rfl rfl
    obtain ⟨e, e', hu⟩ := kindOf_spec h
    exact equal_at fun d => by simp [Op.equalIn, run_under hu]
  case nilm.map =>
    simp only [VRel] at hx hy; obtain ⟨i, hi, rfl⟩ := hy; subst hx
    refine key hr (fun h => ?_) (fun op => guard0 op rfl) rfl rfl
    obtain ⟨e, e', hu⟩ := kindOf_spec h
    exact equal_at fun d => by simp [Op.equalIn, run_under hu]
  case nilm.nilm =>
    simp only [VRel] at hx hy; subst hx; subst hy
    refine key hr (fun h => ?_) (fun op => guard0 op rfl) rfl rfl
    obtain ⟨e, e', hu⟩ := kindOf_spec h
    exact equal_at fun d => by simp [Op.equalIn, run_under hu]
  case func.nilf =>
    simp only [VRel] at hx hy; obtain ⟨fi, ca, rfl, _⟩ := hx; subst hy
    refine key hr (fun h => ?_) (fun op => guard0 op rfl) rfl rfl
    obtain ⟨e, e', e'', hu⟩ := kindOf_spec h
    exact equal_at fun d => by simp [Op.equalIn, run_under hu]
  case nilf.func =>
    simp only [VRel] at hx hy; obtain ⟨fi, ca, rfl, _⟩ := hy; subst hx
    refine key hr (fun h => ?_) (fun op => guard0 op rfl) rfl rfl
    obtain ⟨e, e', e'', hu⟩ := kindOf_spec h
    exact equal_at fun d => by simp [Op.equalIn, run_under hu]
  case nilf.nilf =>
    simp only [VRel] at hx hy; subst hx; subst hy
    refine key hr (fun h => ?_) (fun op => guard0 op rfl) rfl rfl
    obtain ⟨e, e', e'', hu⟩ := kindOf_spec h
    exact equal_at fun d => by simp [Op.equalIn, run_under hu]
  case iface.nili =>
    simp only [VRel] at hx hy; obtain ⟨x', rfl, _⟩ := hx; subst hy
    refine key hr (fun h => ?_) (fun op => guard0 op rfl) rfl rfl
    obtain ⟨e, hu⟩ := kindOf_spec h
    exact equal_at fun d => by simp [Op.equalIn, run_under hu]
  case nili.nili =>
    cases hl' : lit with
    | false => rw [hl'] at hr; exact .inl ⟨_, hr.symm⟩
    | true =>
      rw [hl'] at hr
      simp only [VRel] at hx hy; subst hx; subst hy
      refine key hr (fun h => ?_) (fun op => ?_) rfl rfl
      · obtain ⟨e, hu⟩ := kindOf_spec h
        exact equal_at fun d => by simp [Op.equalIn, run_under hu]
      · have hc : ∀ z : Operand, isLit z = true → ∃ v, z = .const v := fun z hz => by cases z <;> first | exact ⟨_, rfl⟩ | cases hz
        unfold eqGuard
        rcases hl hl' with h | h
        · obtain ⟨v, rfl⟩ := hc _ h
          cases op <;> rfl
        · obtain ⟨v, rfl⟩ := hc _ h
          cases op <;> cases p <;> rfl
  case nili.iface =>
    simp only [VRel] at hx hy; obtain ⟨x', rfl, _⟩ := hy; subst hx
    refine key hr (fun h => ?_) (fun op => guard0 op rfl) rfl rfl
    obtain ⟨e, hu⟩ := kindOf_spec h
    exact equal_at fun d => by simp [Op.equalIn, run_under hu]

theorem same_ok {t t2 : TypeId} {op : BinOp} {x y : Operand} {r : RV} (ho : o.op = .binOp op t x y t2) (hd : DRel sy ρ st.dfs a.defers) (hw : WRel sy G B w0 ρ st w)
    (hg : (eqGuard op t x y (a.eval x) (a.eval y)).run P w = .ok () w) (h : Same sy ρ P st w (Go.binOp op t (a.eval x) (a.eval y)) r) : OpRes sy G B w0 P ρ a o w r := by
  rcases h with ⟨k, rfl⟩ | ⟨v, v', rfl, hv, hrun⟩
  · exact trivial
  · exact pure_val (by simp [execOp, ho, hg, hrun]) hw hd hv

theorem binOther_ok {t t2 : TypeId} {op : BinOp} {x y : Operand} {u v : CV} (ho : o.op = .binOp op t x y t2) (hd : DRel sy ρ st.dfs a.defers) (hw : WRel sy G B w0 ρ st w)
    (hu : VRel sy ρ u (a.eval x)) (hv : VRel sy ρ v (a.eval y)) : OpRes sy G B w0 P ρ a o w ((binOther (kindOf P t) (isLit x || isLit y) op).f u v st) := by
  cases op <;> try exact trivial
  · unfold binOther
    simp only
    generalize hr : eqNil (kindOf P t) (isLit x || isLit y) u v (fun b => RV.ok (.bool b) st) = r
    rcases equal_ok (w := w) (p := x) (q := y) (fun h => by simpa using h) hu hv hr with ⟨k, rfl⟩ | ⟨b, rfl, h1, h2, h3, h4⟩
    · exact trivial
    · refine same_ok ho hd hw (h2 _) (.inr ⟨_, .bool b, rfl, by simp only [VRel], ?_⟩)
      rw [h3]; simp [h1]
  · unfold binOther
    simp only
    generalize hr : eqNil (kindOf P t) (isLit x || isLit y) u v (fun b => RV.ok (.bool (!b)) st) = r
    rcases equal_ok (w := w) (p := x) (q := y) (fun h => by simpa using h) hu hv hr with ⟨k, rfl⟩ | ⟨b, rfl, h1, h2, h3, h4⟩
    · exact trivial
    · refine same_ok ho hd hw (h2 _) (.inr ⟨_, .bool (!b), rfl, by simp only [VRel], ?_⟩)
      rw [h4]; simp [h1]

theorem binOp_ok {t t2 : TypeId} {op : BinOp} {x y : Operand} (ho : o.op = .binOp op t x y t2) (hs : SR sy G cx ρ env loc a) (hd : DRel sy ρ st.dfs a.defers) (hw : WRel sy G B w0 ρ st w) :
    OpRes sy G B w0 P ρ a o w ((oBinOp (kindOf P t) (isLit x || isLit y) op (ev cx x) (ev cx y)).f call env loc st) := by
  have hx := evRel hs hw x
  have hy := evRel hs hw y
  unfold oBinOp
  cases hsh : isShift op with
  | true =>
    simp only
    generalize (ev cx x).f env loc = u at *
    cases u <;> try exact trivial
    simp only
    generalize (ev cx y).f env loc = v at *
    cases v <;> try exact trivial
    simp only [VRel] at hx hy
    refine same_ok ho hd hw (guard_plain _ _ _ _ _ _ (by rw [hx, hy]; rfl)) ?_
    rw [hx, hy]
    exact shiftInt_same _ _ _ _ _ _ hsh
  | false =>
    simp only
    generalize (ev cx x).f env loc = u at *
    have other : OpRes sy G B w0 P ρ a o w ((binOther (kindOf P t) (isLit x || isLit y) op).f u ((ev cx y).f env loc) st) := binOther_ok ho hd hw hx hy
    cases u <;> try exact other
    · rename_i k n
      unfold binAny
      simp only
      generalize (ev cx y).f env loc = v at *
      cases v <;> try exact trivial
      rename_i k' m
      simp only
      cases hk : decide (k = k') with
      | false => exact trivial
      | true =>
        have : k = k' := of_decide_eq_true hk
        subst this
        simp only [VRel] at hx hy
        refine same_ok ho hd hw (guard_plain _ _ _ _ _ _ (by rw [hx, hy]; rfl)) ?_
        rw [hx, hy]
        exact binInt_same _ _ _ _ _ hsh
    · rename_i l n
      unfold binAny
      simp only
      generalize (ev cx y).f env loc = v at *
      cases v <;> try exact trivial
      simp only [VRel] at hx hy
      refine same_ok ho hd hw (guard_plain _ _ _ _ _ _ (by rw [hx, hy]; rfl)) ?_
      rw [hx, hy]
      exact binStr_same _ _ _ _ _ _
end
end Go.Proofs.YtonlahgagjejeaaGreatDoorX
