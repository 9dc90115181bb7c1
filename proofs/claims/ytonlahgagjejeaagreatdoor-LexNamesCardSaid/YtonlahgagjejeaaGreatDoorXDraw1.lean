/- Regions that draw their order (1): equal values, readers, congruence. -/
import Derived.Test.YtonlahgagjejeaaGreatDoorXFun
namespace Go.Proofs.YtonlahgagjejeaaGreatDoorX
open Go Go.RowKit
set_option linter.unusedVariables false

mutual
theorem eqCV_eq : ∀ (x y : CV), eqCV x y = true → x = y
  | .bool a, y, h => by cases y <;> simp [eqCV] at h; subst h; rfl
  | .int k a, y, h => by cases y <;> simp [eqCV] at h; obtain ⟨rfl, rfl⟩ := h; rfl
  | .float k a, y, h => by cases y <;> simp [eqCV] at h; obtain ⟨rfl, rfl⟩ := h; rfl
  | .str l n, y, h => by cases y <;> simp [eqCV] at h; obtain ⟨rfl, rfl⟩ := h; rfl
  | .sym i, y, h => by cases y <;> simp [eqCV] at h; subst h; rfl
  | .ptr b o, y, h => by cases y <;> simp [eqCV] at h; obtain ⟨rfl, rfl⟩ := h; rfl
  | .nilp, y, h => by cases y <;> simp [eqCV] at h; rfl
  | .slice b o l c q, y, h => by cases y <;> simp [eqCV] at h; obtain ⟨rfl, rfl, rfl, rfl, rfl⟩ := h; rfl
  | .nils, y, h => by cases y <;> simp [eqCV] at h; rfl
  | .map b, y, h => by cases y <;> simp [eqCV] at h; subst h; rfl
  | .nilm, y, h => by cases y <;> simp [eqCV] at h; rfl
  | .func f fi ca, y, h => by
    cases y <;> try (cases f <;> simp [eqCV] at h; done)
    rename_i g fj cb
    cases f <;> cases g <;> simp [eqCV] at h
    obtain ⟨rfl, h1, h2⟩ := h
    rw [eqCVs_eq _ _ h1, eqCVs_eq _ _ h2]
  | .nilf, y, h => by cases y <;> simp [eqCV] at h; rfl
  | .iface t v, y, h => by
    cases y <;> simp [eqCV] at h
    obtain ⟨rfl, h1⟩ := h
    rw [eqCV_eq _ _ h1]
  | .nili, y, h => by cases y <;> simp [eqCV] at h; rfl
  | .agg l, y, h => by
    cases y <;> simp [eqCV] at h
    rw [eqCVs_eq _ _ h]
  | .tup l, y, h => by
    cases y <;> simp [eqCV] at h
    rw [eqCVs_eq _ _ h]
  | .unk, y, h => by cases y <;> simp [eqCV] at h
theorem eqCVs_eq : ∀ (x y : List CV), eqCVs x y = true → x = y
  | [], y, h => by cases y <;> simp [eqCVs] at h; rfl
  | x :: r, y, h => by
    cases y <;> simp [eqCVs] at h
    rw [eqCV_eq _ _ h.1, eqCVs_eq _ _ h.2]
end

section
variable {P : Program} {cx : Cx} {call : Caller} {env env' : List CV} {loc loc' : Loc} {st st' : St} {v : CV}

theorem fill_keep {place : Nat → Option (Nat × Nat)} : ∀ (parts : List (Nat × Operand)) (size : Nat) (cs : List CV), (fillF place cx parts size).f cs env loc (fun l => RV.ok (.agg l) st) = .ok v st' → st' = st
  | [], size, cs, h => by
    have h' : RV.ok (.agg cs) st = .ok v st' := h
    cases h'; rfl
  | (i, x) :: r, size, cs, h => by
    unfold fillF at h
    cases hp : place i with
    | none => rw [hp] at h; cases h
    | some on =>
      obtain ⟨off, n⟩ := on
      rw [hp] at h
      simp only at h
      cases hb : Nat.ble (Nat.add off n) size with
      | false => rw [hb] at h; cases h
      | true =>
        rw [hb] at h
        simp only [cond_true] at h
        generalize (Nat.beq (len (cellsOf ((ev cx x).f env loc))) n && (cellsOf ((ev cx x).f env loc)).all oneCell) = q at h
        cases q with
        | false => cases h
        | true => exact fill_keep r size _ h

theorem guardK_keep {kd n : Nat} {r : RV} (h : guardK kd n r = .ok v st') (k : r = .ok v st' → st' = st) : st' = st := by
  unfold guardK at h
  cases hb : Nat.beq kd n with
  | false => rw [hb] at h; cases h
  | true => rw [hb] at h; exact k h
theorem eqNil_keep {kd : Nat} {lit : Bool} {x y : CV} {K : Bool → RV} (hK : ∀ b, K b = .ok v st' → st' = st) (h : eqNil kd lit x y K = .ok v st') : st' = st := by
  unfold eqNil at h
  cases x <;> cases y <;> simp only at h <;> first
    | (cases h; done)
    | exact guardK_keep h (hK _)
    | (cases lit <;> first | (cases h; done) | exact guardK_keep h (hK _))
    | (rename_i b o b' o'; cases hb : Nat.beq b b' <;> rw [hb] at h <;> first | (cases h; done) | exact guardK_keep h (hK _))
theorem ok_keep {u : CV} (h : RV.ok u st = .ok v st') : st' = st := by cases h; rfl
theorem intV_keep {k : IntKind} {n : Int} (h : intV k n st = .ok v st') : st' = st := by rw [intV_eq] at h; exact ok_keep h
theorem binAny_keep {kd : Nat} {lit : Bool} {op : BinOp} {x : CV} {y : Ev} (h : binAny kd lit op x y env loc st = .ok v st') : st' = st := by
  have other : ∀ u, (binOther kd lit op).f u (y.f env loc) st = .ok v st' → st' = st := by
    intro u h
    unfold binOther at h
    cases op <;> simp only at h <;> first
      | (cases h; done)
      | exact eqNil_keep (fun _ h => ok_keep h) h
  unfold binAny at h
  cases x <;> simp only at h <;> try exact other _ h
  · cases hy : y.f env loc <;> rw [hy] at h <;> simp only at h <;> try (cases h; done)
    rename_i k a k' b
    cases hk : decide (k = k') <;> rw [hk] at h <;> simp only at h <;> try (cases h; done)
    unfold binInt at h
    cases op <;> simp only at h <;> first
      | (cases h; done)
      | exact intV_keep h
      | exact ok_keep h
      | (cases hd : decide (b = 0) <;> rw [hd] at h <;> simp only [forceI_eq] at h <;> first | (cases h; done) | exact intV_keep h | exact ok_keep h)
  · cases hy : y.f env loc <;> rw [hy] at h <;> simp only at h <;> try (cases h; done)
    unfold binStr at h
    cases op <;> simp only at h <;> first
      | (cases h; done)
      | exact ok_keep h
      | (rename_i l n m k; cases hd : Nat.ble (Nat.add l m) 4294967296 <;> rw [hd] at h <;> simp only [cond_true, cond_false, strV, forceN_eq] at h <;> first | (cases h; done) | exact ok_keep h)
theorem loadAt_keep {g : Bool} {n b o : Nat} (h : loadAt g n b o st (fun v => .ok v st) = .ok v st') : st' = st := by
  unfold loadAt at h
  cases hc : cellsAt b st with
  | none => rw [hc] at h; cases h
  | some cells =>
    rw [hc] at h
    cases g <;> simp only at h
    · cases hg : cells.get o <;> rw [hg] at h <;> simp only at h <;> first | (cases h; done) | exact ok_keep h
    · cases hg : loadN cells n o <;> rw [hg] at h <;> simp only at h <;> first | (cases h; done) | exact ok_keep h
theorem ixAddr_keep {es b o l : Nat} {i : CV} (h : ixAddr es b o l i st = .ok v st') : st' = st := by
  unfold ixAddr at h
  cases i <;> simp only at h <;> try (cases h; done)
  rename_i k n
  cases n <;> simp only at h <;> try (cases h; done)
  rename_i n
  cases hb : Nat.blt n l <;> rw [hb] at h <;> simp only [cond_true, cond_false, forceN_eq] at h <;> first | (cases h; done) | exact ok_keep h

theorem sliceStr_keep {l n lo hi : Nat} (h : sliceStr l n lo hi st = .ok v st') : st' = st := by
  unfold sliceStr at h
  generalize (Nat.ble lo hi && Nat.ble hi l) = q at h
  cases q <;> simp only [cond_true, cond_false, strV, forceN_eq] at h <;> first | (cases h; done) | exact ok_keep h
theorem intAt_keep {x : CV} {K : Nat → RV} (hK : ∀ n, K n = .ok v st' → st' = st) (h : intAt x K = .ok v st') : st' = st := by
  unfold intAt at h
  cases x <;> simp only at h <;> try (cases h; done)
  rename_i k n
  cases n <;> simp only at h <;> first | (cases h; done) | exact hK _ h
theorem optInt_keep {x : Option Operand} {d : Nat} {K : Nat → RV} (hK : ∀ n, K n = .ok v st' → st' = st) (h : (optInt cx x).f env loc d K = .ok v st') : st' = st := by
  cases x with
  | none => exact hK d h
  | some y => exact intAt_keep hK h

theorem packC_keep : ∀ (cs : List CV) {K : Nat → RV} {v : CV} {st st' : St}, packC cs K = .ok v st' → (∀ n, K n = .ok v st' → st' = st) → st' = st
  | [], K, v, st, st', h, hk => hk 0 h
  | c :: cs, K, v, st, st', h, hk => by
    unfold packC at h
    cases c <;> try (cases h; done)
    rename_i k m
    cases m with
    | negSucc m => cases h
    | ofNat m =>
      simp only at h
      cases hb : decide (k = .u8) && Nat.blt m 256 with
      | false => rw [hb] at h; cases h
      | true =>
        rw [hb] at h
        exact packC_keep cs (K := fun r => forceN K (Nat.add m (Nat.mul 256 r))) h fun n hn => hk _ (by rw [forceN_eq] at hn; exact hn)
theorem strOfBytes_keep {u v : CV} {st st' : St} (h : strOfBytes u st = .ok v st') : st' = st := by
  unfold strOfBytes at h
  cases u <;> try (cases h; done)
  · rename_i b o l c q
    simp only at h
    cases hc : cellsAt b st with
    | none => rw [hc] at h; cases h
    | some cells =>
      rw [hc] at h
      simp only at h
      cases hl : loadN cells l o with
      | none => rw [hl] at h; cases h
      | some cs =>
        rw [hl] at h
        exact packC_keep cs h fun n hn => by cases hn; rfl
  · cases h; rfl
theorem reads_keep {op : Op} (hr : reads P op = true) (h : (opF P cx op).f call env loc st = .ok v st') : st' = st := by
  cases op <;> simp only [reads] at hr <;> try (cases hr; done)
  all_goals simp only [opF] at h
  case move => exact ok_keep h
  case assign => exact ok_keep h
  case pick c a b =>
    unfold oPick at h
    simp only at h
    cases hc : (ev cx c).f env loc <;> rw [hc] at h <;> simp only at h <;> try (cases h; done)
    rename_i t
    cases t <;> exact ok_keep h
  case build t parts =>
    unfold oBuild at h
    split at h
    · split at h
      · split at h
        · exact fill_keep _ _ _ h
        · cases h
      · split at h
        · exact fill_keep _ _ _ h
        · cases h
      · cases h
    · cases h
  case load t a =>
    unfold oLoad at h
    split at h
    · simp only at h
      cases hc : (ev cx a).f env loc <;> rw [hc] at h <;> simp only at h <;> try (cases h; done)
      exact loadAt_keep h
    · cases h
  case nilCheck x =>
    unfold oNilCheck at h
    simp only at h
    cases hc : (ev cx x).f env loc <;> rw [hc] at h <;> simp only at h <;> try (cases h; done)
    · exact ok_keep h
    · exact ok_keep h
    · rename_i f _ _
      cases f <;> simp only at h <;> first | (cases h; done) | exact ok_keep h
  case binOp op t x y t2 =>
    unfold oBinOp at h
    split at h
    · simp only at h
      cases hx : (ev cx x).f env loc <;> rw [hx] at h <;> simp only at h <;> try (cases h; done)
      cases hy : (ev cx y).f env loc <;> rw [hy] at h <;> simp only at h <;> try (cases h; done)
      rename_i k a _ b
      unfold shiftInt at h
      cases op <;> simp only at h <;> try (cases h; done)
      · cases b <;> simp only at h <;> first | (cases h; done) | exact intV_keep h
      · cases b <;> simp only [forceI_eq] at h <;> first | (cases h; done) | exact ok_keep h
    · exact binAny_keep h
  case unOp op t x =>
    unfold oUnOp at h
    cases op <;> simp only at h <;> try (cases h; done)
    · cases hx : (ev cx x).f env loc <;> rw [hx] at h <;> simp only at h <;> first | (cases h; done) | exact intV_keep h
    · cases hx : (ev cx x).f env loc <;> rw [hx] at h <;> simp only at h <;> first | (cases h; done) | exact ok_keep h
  case convert s t x =>
    unfold oConvert at h
    split at h
    · split at h
      · simp only at h
        cases hx : (ev cx x).f env loc <;> rw [hx] at h <;> simp only at h <;> first | (cases h; done) | exact intV_keep h
      · split at h
        · split at h
          · exact strOfBytes_keep h
          · cases h
        · simp only at h
          cases hx : (ev cx x).f env loc <;> rw [hx] at h <;> simp only at h <;> first | (cases h; done) | exact ok_keep h
      · rename_i h2
        rw [h2] at hr
        cases hr
      · cases h
    · cases h
  case slice t x lo hi mx =>
    unfold oSlice at h
    split at h
    · split at h
      · simp only at h
        unfold strOf at h
        cases hx : (ev cx x).f env loc <;> rw [hx] at h <;> simp only at h <;> try (cases h; done)
        refine optInt_keep (fun n h => optInt_keep (fun m h => ?_) h) h
        exact sliceStr_keep h
      · cases h
    · cases h
  case fieldAddr t x f =>
    unfold oFieldAddr at h
    split at h
    · simp only at h
      cases hx : (ev cx x).f env loc <;> rw [hx] at h <;> simp only [forceN_eq] at h <;> first | (cases h; done) | exact ok_keep h
    · cases h
  case indexAddr t x i =>
    unfold oIndexAddr at h
    split at h
    · split at h
      · split at h
        · simp only at h
          cases hx : (ev cx x).f env loc <;> rw [hx] at h <;> simp only at h <;> first | (cases h; done) | exact ixAddr_keep h
        · cases h
      · split at h
        · simp only at h
          cases hx : (ev cx x).f env loc <;> rw [hx] at h <;> simp only at h <;> first | (cases h; done) | exact ixAddr_keep h
        · cases h
      · cases h
    · cases h
  case index t x i =>
    unfold oIndex at h
    split at h
    · split at h
      · simp only at h
        cases hx : (ev cx x).f env loc <;> rw [hx] at h <;> simp only at h <;> try (cases h; done)
        cases hi : (ev cx i).f env loc <;> rw [hi] at h <;> simp only at h <;> try (cases h; done)
        rename_i l n k m
        cases m <;> simp only at h <;> try (cases h; done)
        rename_i m
        cases hb : Nat.blt m l <;> rw [hb] at h <;> simp only [cond_true, cond_false, forceN_eq] at h <;> first | (cases h; done) | exact ok_keep h
      · cases h
    · cases h
  case extract x i =>
    unfold oExtract at h
    simp only at h
    cases hx : (ev cx x).f env loc <;> rw [hx] at h <;> simp only at h <;> try (cases h; done)
    rename_i l
    cases hg : l[i]? <;> rw [hg] at h <;> simp only at h <;> first | (cases h; done) | exact ok_keep h
  case call c =>
    cases hc : c.callee <;> rw [hc] at hr <;> simp only at hr <;> try (cases hr; done)
    rename_i b
    cases b <;> simp only at hr <;> try (cases hr; done)
    unfold oCall at h
    rw [hc] at h
    simp only at h
    unfold oBuiltin at h
    generalize c.args.toList = A at h
    generalize c.argTypes.toList = Ts at h
    rcases A with _ | ⟨x, _ | ⟨y, A⟩⟩ <;> rcases Ts with _ | ⟨t, _ | ⟨t2, Ts⟩⟩ <;> simp only at h <;> try (cases h; done)
    split at h
    · split at h
      · simp only at h
        unfold lenStr at h
        cases hx : (ev cx x).f env loc <;> rw [hx] at h <;> simp only at h <;> first | (cases h; done) | exact ok_keep h
      · simp only at h
        unfold lenSl at h
        cases hx : (ev cx x).f env loc <;> rw [hx] at h <;> simp only at h <;> first | (cases h; done) | exact ok_keep h
      · exact ok_keep h
      · cases h
    · cases h

/-! ## What an operation looks at -/
theorem evs_congr {l : List Operand} (h : ∀ x ∈ l, (ev cx x).f env loc = (ev cx x).f env' loc') : (evs cx l).f env loc = (evs cx l).f env' loc' := by
  induction l with
  | nil => rfl
  | cons x r ih =>
    show (ev cx x).f env loc :: (evs cx r).f env loc = (ev cx x).f env' loc' :: (evs cx r).f env' loc'
    rw [h x (by simp), ih fun y hy => h y (by simp [hy])]
theorem fill_congr {place : Nat → Option (Nat × Nat)} {K : List CV → RV} : ∀ (parts : List (Nat × Operand)) (size : Nat) (cs : List CV), (∀ p ∈ parts, (ev cx p.2).f env loc = (ev cx p.2).f env' loc') →
    (fillF place cx parts size).f cs env loc K = (fillF place cx parts size).f cs env' loc' K
  | [], size, cs, h => rfl
  | (i, x) :: r, size, cs, h => by
    have hx := h (i, x) (by simp)
    simp only at hx
    unfold fillF
    cases hp : place i with
    | none => rfl
    | some on =>
      obtain ⟨off, n⟩ := on
      simp only
      cases Nat.ble (Nat.add off n) size with
      | false => rfl
      | true =>
        simp only [cond_true, hx]
        generalize (Nat.beq (len (cellsOf ((ev cx x).f env' loc'))) n && (cellsOf ((ev cx x).f env' loc')).all oneCell) = q
        cases q with
        | false => rfl
        | true => exact fill_congr r size _ fun p hp => h p (by simp [hp])
theorem optInt_congr {x : Option Operand} {d : Nat} {K K' : Nat → RV} (h : ∀ y, x = some y → (ev cx y).f env loc = (ev cx y).f env' loc') (hK : K = K') : (optInt cx x).f env loc d K = (optInt cx x).f env' loc' d K' := by
  subst hK
  cases x with
  | none => rfl
  | some y =>
    show intAt ((ev cx y).f env loc) K = intAt ((ev cx y).f env' loc') K
    rw [h y rfl]
theorem binAny_congr {kd : Nat} {lit : Bool} {op : BinOp} {u : CV} {y : Ev} (h : y.f env loc = y.f env' loc') : binAny kd lit op u y env loc st = binAny kd lit op u y env' loc' st := by
  unfold binAny
  cases u <;> simp only [h]

theorem op_congr (op : Op) (h : ∀ x ∈ op.operands.toList, (ev cx x).f env loc = (ev cx x).f env' loc') : (opF P cx op).f call env loc st = (opF P cx op).f call env' loc' st := by
  cases op <;> simp only [opF] <;> try rfl
  case move x => simp only [oMove, h x (by simp [Op.operands])]
  case assign x => simp only [oMove, h x (by simp [Op.operands])]
  case pick c a b => simp only [oPick, h c (by simp [Op.operands]), h a (by simp [Op.operands]), h b (by simp [Op.operands])]
  case box t x =>
    unfold oBox
    split
    · simp only [h x (by simp [Op.operands])]
    · rfl
  case alloc t =>
    unfold oAlloc
    split <;> rfl
  case build t parts =>
    have hp : ∀ p ∈ parts.toList, (ev cx p.2).f env loc = (ev cx p.2).f env' loc' := fun p hp => h p.2 (by simp [Op.operands]; exact ⟨p.1, by simpa using hp⟩)
    unfold oBuild
    split
    · split
      · split
        · unfold buildF; exact fill_congr _ _ _ hp
        · rfl
      · split
        · unfold buildF; exact fill_congr _ _ _ hp
        · rfl
      · rfl
    · rfl
  case buildSlice t n parts =>
    have hp : ∀ p ∈ parts.toList, (ev cx p.2).f env loc = (ev cx p.2).f env' loc' := fun p hp => h p.2 (by simp [Op.operands]; exact ⟨p.1, by simpa using hp⟩)
    unfold oBuildSlice
    split
    · split
      · rename_i es z _ _
        cases (Nat.ble (Nat.mul n es) 16777216 && Nat.beq (len (cellsOf z)) es) with
        | false => rfl
        | true => simp only [cond_true]; unfold buildSliceF; exact fill_congr _ _ _ hp
      · rfl
    · rfl
  case load t a =>
    unfold oLoad
    split
    · simp only [h a (by simp [Op.operands])]
    · rfl
  case store t a x =>
    unfold oStore
    split
    · simp only [h a (by simp [Op.operands]), h x (by simp [Op.operands])]
    · rfl
  case nilCheck x => simp only [oNilCheck, h x (by simp [Op.operands])]
  case binOp op t x y t2 =>
    unfold oBinOp
    split
    · simp only [h x (by simp [Op.operands]), h y (by simp [Op.operands])]
    · simp only [h x (by simp [Op.operands])]
      exact binAny_congr (h y (by simp [Op.operands]))
  case unOp op t x =>
    unfold oUnOp
    split
    · simp only [h x (by simp [Op.operands])]
    · simp only [h x (by simp [Op.operands])]
    · rfl
  case convert s t x =>
    unfold oConvert
    split
    · split
      · simp only [h x (by simp [Op.operands])]
      · split
        · split
          · simp only [h x (by simp [Op.operands])]
          · rfl
        · simp only [h x (by simp [Op.operands])]
      · split
        · simp only [h x (by simp [Op.operands])]
        · rfl
      · rfl
    · rfl
  case slice t x lo hi mx =>
    unfold oSlice
    split
    · split
      · simp only [h x (by simp [Op.operands])]
        congr 1
        funext l n
        refine optInt_congr (fun y hy => h y (by simp [Op.operands, hy])) ?_
        funext q
        exact optInt_congr (fun y hy => h y (by simp [Op.operands, hy])) rfl
      · rfl
    · rfl
  case fieldAddr t x f =>
    unfold oFieldAddr
    split
    · simp only [h x (by simp [Op.operands])]
    · rfl
  case indexAddr t x i =>
    unfold oIndexAddr
    split
    · split
      · split
        · simp only [h x (by simp [Op.operands]), h i (by simp [Op.operands])]
        · rfl
      · split
        · simp only [h x (by simp [Op.operands]), h i (by simp [Op.operands])]
        · rfl
      · rfl
    · rfl
  case index t x i =>
    unfold oIndex
    split
    · split
      · simp only [h x (by simp [Op.operands]), h i (by simp [Op.operands])]
      · rfl
    · rfl
  case range t x =>
    unfold oRange
    split
    · split
      · simp only [h x (by simp [Op.operands])]
      · rfl
    · rfl
  case next x s =>
    unfold oNext
    split
    · simp only [h x (by simp [Op.operands])]
    · rfl
  case extract x i => simp only [oExtract, h x (by simp [Op.operands])]
  case call c =>
    unfold oCall
    have hargs : ∀ x ∈ c.args.toList, (ev cx x).f env loc = (ev cx x).f env' loc' := fun x hx => h x (by simp [Op.operands, Call.operands]; exact .inr (by simpa using hx))
    cases hc : c.callee with
    | value f =>
      simp only [h f (by simp [Op.operands, Call.operands, hc]), evs_congr hargs]
    | invoke r m => rfl
    | builtin b =>
      simp only
      unfold oBuiltin
      generalize c.args.toList = A at hargs
      generalize c.argTypes.toList = Ts
      cases b <;> simp only <;> try rfl
      · rcases A with _ | ⟨x, _ | ⟨y, _ | ⟨z, A⟩⟩⟩ <;> rcases Ts with _ | ⟨t, _ | ⟨t2, _ | ⟨t3, Ts⟩⟩⟩ <;> simp only <;> try rfl
        unfold oAppend
        split
        · split
          · rename_i es by_ z _ _ _
            cases (Nat.beq (len (cellsOf z)) es && noInt P t2) with
            | false => rfl
            | true => simp only [cond_true]; unfold appendF; simp only [hargs x (by simp), hargs y (by simp)]
          · rfl
        · rfl
      · rcases A with _ | ⟨x, _ | ⟨y, A⟩⟩ <;> rcases Ts with _ | ⟨t, _ | ⟨t2, Ts⟩⟩ <;> simp only <;> try rfl
        split
        · split
          · simp only [hargs x (by simp)]
          · simp only [hargs x (by simp)]
          · rfl
          · rfl
        · rfl
end
end Go.Proofs.YtonlahgagjejeaaGreatDoorX
