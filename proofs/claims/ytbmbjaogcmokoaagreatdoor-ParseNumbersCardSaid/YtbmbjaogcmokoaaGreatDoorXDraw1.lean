/- Regions that draw their order (1): congruence. -/
import Derived.Test.YtbmbjaogcmokoaaGreatDoorXFun
import Derived.Test.YtbmbjaogcmokoaaGreatDoorXKeep
namespace Go.Proofs.YtbmbjaogcmokoaaGreatDoorX
open Go Go.RowKit
set_option linter.unusedVariables false

section
variable {P : Program} {cx : Cx} {call : Caller} {env env' : List CV} {loc loc' : Loc} {st st' : St} {v : CV}

/-! ## What an operation looks at -/
theorem evs_congr {l : List Operand} (h : ∀ x ∈ l, (ev cx x).f env loc = (ev cx x).f env' loc') : (evs cx l).f env loc = (evs cx l).f env' loc' := by
  induction l with
  | nil => rfl
  | cons x r ih =>
    show (ev cx x).f env loc :: (evs cx r).f env loc = (ev cx x).f env' loc' :: (evs cx r).f env' loc'
    rw [h x (by simp), ih fun y hy => h y (by simp [hy])]
theorem fill_congr {place : Nat → Option (Nat × Nat)} {K : List CV → RV} : ∀ (parts : List (Nat × Operand)) (size : Nat) (cs : List CV), (∀ p ∈ parts, (ev cx p.2).f env loc = (ev cx p.2).f env' loc') →
    (fillF place cx parts size).f cs env loc K = (fillF place cx parts size).f cs env' loc' K
  | [], size, cs, h => rfl
  | (i, x) :: r, size, cs, h => by
    have hx := h (i, x) (by simp)
    simp only at hx
    unfold fillF
    cases hp : place i with
    | none => rfl
    | some on =>
      obtain ⟨off, n⟩ := on
      simp only
      cases Nat.ble (Nat.add off n) size with
      | false => rfl
      | true =>
        simp only [cond_true, hx]
        generalize (Nat.beq (len (cellsOf ((ev cx x).f env' loc'))) n && (cellsOf ((ev cx x).f env' loc')).all oneCell) = q
        cases q with
        | false => rfl
        | true => exact fill_congr r size _ fun p hp => h p (by simp [hp])
theorem optInt_congr {x : Option Operand} {d : Nat} {K K' : Nat → RV} (h : ∀ y, x = some y → (ev cx y).f env loc = (ev cx y).f env' loc') (hK : K = K') : (optInt cx x).f env loc d K = (optInt cx x).f env' loc' d K' := by
  subst hK
  cases x with
  | none => rfl
  | some y =>
    show intAt ((ev cx y).f env loc) K = intAt ((ev cx y).f env' loc') K
    rw [h y rfl]
theorem binAny_congr {kd : Nat} {lit : Bool} {es : Option (List (Nat × Nat))} {op : BinOp} {u : CV} {y : Ev} (h : y.f env loc = y.f env' loc') : binAny kd lit es op u y env loc st = binAny kd lit es op u y env' loc' st := by
  unfold binAny
  cases u <;> simp only [h]

theorem op_congr (op : Op) (h : ∀ x ∈ op.operands.toList, (ev cx x).f env loc = (ev cx x).f env' loc') : (opF P cx op).f call env loc st = (opF P cx op).f call env' loc' st := by
  cases op <;> simp only [opF] <;> try rfl
  case move x => simp only [oMove, h x (by simp [Op.operands])]
  case assign x => simp only [oMove, h x (by simp [Op.operands])]
  case pick c a b => simp only [oPick, h c (by simp [Op.operands]), h a (by simp [Op.operands]), h b (by simp [Op.operands])]
  case box t x =>
    unfold oBox
    split
    · simp only [h x (by simp [Op.operands])]
    · rfl
  case alloc t =>
    unfold oAlloc
    split <;> rfl
  case build t parts =>
    have hp : ∀ p ∈ parts.toList, (ev cx p.2).f env loc = (ev cx p.2).f env' loc' := fun p hp => h p.2 (by simp [Op.operands]; exact ⟨p.1, by simpa using hp⟩)
    unfold oBuild
    split
    · split
      · split
        · unfold buildF; exact fill_congr _ _ _ hp
        · rfl
      · split
        · unfold buildF; exact fill_congr _ _ _ hp
        · rfl
      · rfl
    · rfl
  case buildSlice t n parts =>
    have hp : ∀ p ∈ parts.toList, (ev cx p.2).f env loc = (ev cx p.2).f env' loc' := fun p hp => h p.2 (by simp [Op.operands]; exact ⟨p.1, by simpa using hp⟩)
    unfold oBuildSlice
    split
    · split
      · rename_i es z _ _
        cases (Nat.ble (Nat.mul n es) 16777216 && Nat.beq (len (cellsOf z)) es) with
        | false => rfl
        | true => simp only [cond_true]; unfold buildSliceF; exact fill_congr _ _ _ hp
      · rfl
    · rfl
  case load t a =>
    unfold oLoad
    split
    · simp only [h a (by simp [Op.operands])]
    · rfl
  case store t a x =>
    unfold oStore
    split
    · simp only [h a (by simp [Op.operands]), h x (by simp [Op.operands])]
    · rfl
  case nilCheck x => simp only [oNilCheck, h x (by simp [Op.operands])]
  case binOp op t x y t2 =>
    unfold oBinOp
    split
    · simp only [h x (by simp [Op.operands]), h y (by simp [Op.operands])]
    · simp only [h x (by simp [Op.operands])]
      exact binAny_congr (h y (by simp [Op.operands]))
  case unOp op t x =>
    unfold oUnOp
    split
    · simp only [h x (by simp [Op.operands])]
    · simp only [h x (by simp [Op.operands])]
    · rfl
  case convert s t x =>
    unfold oConvert
    split
    · split
      · simp only [h x (by simp [Op.operands])]
      · split
        · split
          · simp only [h x (by simp [Op.operands])]
          · rfl
        · simp only [h x (by simp [Op.operands])]
      · split
        · simp only [h x (by simp [Op.operands])]
        · rfl
      · split
        · split
          · rfl
          · simp only [h x (by simp [Op.operands])]
        · rfl
      · split
        · simp only [h x (by simp [Op.operands])]
        · rfl
      · rfl
    · rfl
  case slice t x lo hi mx =>
    unfold oSlice
    split
    · split
      · simp only [h x (by simp [Op.operands])]
        congr 1
        funext l n
        refine optInt_congr (fun y hy => h y (by simp [Op.operands, hy])) ?_
        funext q
        exact optInt_congr (fun y hy => h y (by simp [Op.operands, hy])) rfl
      · rfl
    · rfl
  case fieldAddr t x f =>
    unfold oFieldAddr
    split
    · simp only [h x (by simp [Op.operands])]
    · rfl
  case indexAddr t x i =>
    unfold oIndexAddr
    split
    · split
      · split
        · simp only [h x (by simp [Op.operands]), h i (by simp [Op.operands])]
        · rfl
      · split
        · simp only [h x (by simp [Op.operands]), h i (by simp [Op.operands])]
        · rfl
      · rfl
    · rfl
  case index t x i =>
    unfold oIndex
    split
    · split
      · simp only [h x (by simp [Op.operands]), h i (by simp [Op.operands])]
      · rfl
    · rfl
  case range t x =>
    unfold oRange
    split
    · split
      · simp only [h x (by simp [Op.operands])]
      · simp only [h x (by simp [Op.operands])]
      · rfl
    · rfl
  case makeSlice t x y =>
    unfold oMakeSlice
    split
    · split
      · rename_i es by_ z _ _ _
        cases (Nat.beq (len (cellsOf z)) es) with
        | false => rfl
        | true => simp only [cond_true, h x (by simp [Op.operands]), h y (by simp [Op.operands])]
      · rfl
    · rfl
  case next x s =>
    unfold oNext
    split
    · simp only [h x (by simp [Op.operands])]
    · simp only [h x (by simp [Op.operands])]
  case extract x i => simp only [oExtract, h x (by simp [Op.operands])]
  case field t x f =>
    unfold oField
    generalize fieldOf P t f = fo
    rcases fo with _ | ⟨off, g, n⟩
    · rfl
    · cases g <;> simp only [h x (by simp [Op.operands])]
  case makeInterface t x =>
    unfold oMakeIface
    split
    · split
      · rfl
      · simp only [h x (by simp [Op.operands])]
    · rfl
  case makeFunc f fi ca =>
    show RV.ok _ st = RV.ok _ st
    rw [evs_congr (l := fi.toList) (fun y hy => h y (by simp [Op.operands]; exact .inl (by simpa using hy))), evs_congr (l := ca.toList) (fun y hy => h y (by simp [Op.operands]; exact .inr (by simpa using hy)))]
  case typeAssert x t0 t ok =>
    unfold oAssert
    split
    · simp only [h x (by simp [Op.operands])]
    · simp only [h x (by simp [Op.operands])]
    · rfl
  case panic x => simp only [oPanic, h x (by simp [Op.operands])]
  case makeMap t r => cases r <;> rfl
  case defer c =>
    unfold oDefer
    have hargs : ∀ x ∈ c.args.toList, (ev cx x).f env loc = (ev cx x).f env' loc' := fun x hx => h x (by simp [Op.operands, Call.operands]; exact .inr (by simpa using hx))
    cases hc : c.callee with
    | value f => simp only [h f (by simp [Op.operands, Call.operands, hc]), evs_congr hargs]
    | invoke r m => rfl
    | builtin b => rfl
  case insert t m k x =>
    unfold oUpdate
    generalize mapOf P t = mi
    rcases mi with _ | ⟨kd, z⟩
    · rfl
    · simp only [h m (by simp [Op.operands]), h k (by simp [Op.operands]), h x (by simp [Op.operands])]
  case mapUpdate t m k x =>
    unfold oUpdate
    generalize mapOf P t = mi
    rcases mi with _ | ⟨kd, z⟩
    · rfl
    · simp only [h m (by simp [Op.operands]), h k (by simp [Op.operands]), h x (by simp [Op.operands])]
  case lookup t m k ok =>
    unfold oLookup
    generalize mapOf P t = mi
    rcases mi with _ | ⟨kd, z⟩
    · rfl
    · cases z with
      | none => rfl
      | some z => simp only [h m (by simp [Op.operands]), h k (by simp [Op.operands])]
  case call c =>
    unfold oCall
    have hargs : ∀ x ∈ c.args.toList, (ev cx x).f env loc = (ev cx x).f env' loc' := fun x hx => h x (by simp [Op.operands, Call.operands]; exact .inr (by simpa using hx))
    cases hc : c.callee with
    | value f =>
      simp only [h f (by simp [Op.operands, Call.operands, hc]), evs_congr hargs]
    | invoke r m => rfl
    | builtin b =>
      simp only
      unfold oBuiltin
      generalize c.args.toList = A at hargs
      generalize c.argTypes.toList = Ts
      cases b <;> simp only <;> try rfl
      case append =>
        rcases A with _ | ⟨x, _ | ⟨y, _ | ⟨z, A⟩⟩⟩ <;> rcases Ts with _ | ⟨t, _ | ⟨t2, _ | ⟨t3, Ts⟩⟩⟩ <;> simp only <;> try rfl
        unfold oAppend
        split
        · split
          · rename_i es by_ z _ _ _
            cases (Nat.beq (len (cellsOf z)) es && noInt P t2) with
            | false => rfl
            | true => simp only [cond_true]; unfold appendF; simp only [hargs x (by simp), hargs y (by simp)]
          · rfl
        · rfl
      case len =>
        rcases A with _ | ⟨x, _ | ⟨y, A⟩⟩ <;> rcases Ts with _ | ⟨t, _ | ⟨t2, Ts⟩⟩ <;> simp only <;> try rfl
        split
        · split
          · simp only [hargs x (by simp)]
          · simp only [hargs x (by simp)]
          · rfl
          · simp only [hargs x (by simp)]
          · rfl
        · rfl
      case max =>
        rcases A with _ | ⟨x, _ | ⟨y, _ | ⟨z, A⟩⟩⟩ <;> simp only <;> try rfl
        unfold oMax
        simp only [hargs x (by simp), hargs y (by simp)]
      case min =>
        rcases A with _ | ⟨x, _ | ⟨y, _ | ⟨z, A⟩⟩⟩ <;> simp only <;> try rfl
        unfold oMin
        simp only [hargs x (by simp), hargs y (by simp)]
      case unsafeSliceData =>
        rcases A with _ | ⟨x, _ | ⟨y, A⟩⟩ <;> simp only <;> try rfl
        simp only [hargs x (by simp)]
      case unsafeString =>
        rcases A with _ | ⟨x, _ | ⟨y, _ | ⟨z, A⟩⟩⟩ <;> rcases Ts with _ | ⟨t, _ | ⟨t2, _ | ⟨t3, Ts⟩⟩⟩ <;> simp only <;> try rfl
        split
        · simp only [hargs x (by simp), hargs y (by simp)]
        · rfl
      case delete =>
        rcases A with _ | ⟨x, _ | ⟨y, _ | ⟨z, A⟩⟩⟩ <;> rcases Ts with _ | ⟨t, _ | ⟨t2, _ | ⟨t3, Ts⟩⟩⟩ <;> simp only <;> try rfl
        unfold oDelete
        generalize mapOf P t = mi
        rcases mi with _ | ⟨kd, z⟩
        · rfl
        · simp only [hargs x (by simp), hargs y (by simp)]
end
end Go.Proofs.YtbmbjaogcmokoaaGreatDoorX
