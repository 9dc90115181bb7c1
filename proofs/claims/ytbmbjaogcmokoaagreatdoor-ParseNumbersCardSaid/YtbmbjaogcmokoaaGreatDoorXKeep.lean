/- Operations that read: they leave the state as it is. -/
import Derived.Test.YtbmbjaogcmokoaaGreatDoorXPut
namespace Go.Proofs.YtbmbjaogcmokoaaGreatDoorX
open Go Go.RowKit
set_option linter.unusedVariables false

section
variable {P : Program} {cx : Cx} {call : Caller} {env env' : List CV} {loc loc' : Loc} {st st' : St} {v : CV}

theorem fill_keep {place : Nat → Option (Nat × Nat)} : ∀ (parts : List (Nat × Operand)) (size : Nat) (cs : List CV), (fillF place cx parts size).f cs env loc (fun l => RV.ok (.agg l) st) = .ok v st' → st' = st
  | [], size, cs, h => by
    have h' : RV.ok (.agg cs) st = .ok v st' := h
    cases h'; rfl
  | (i, x) :: r, size, cs, h => by
    unfold fillF at h
    cases hp : place i with
    | none => rw [hp] at h; cases h
    | some on =>
      obtain ⟨off, n⟩ := on
      rw [hp] at h
      simp only at h
      cases hb : Nat.ble (Nat.add off n) size with
      | false => rw [hb] at h; cases h
      | true =>
        rw [hb] at h
        simp only [cond_true] at h
        generalize (Nat.beq (len (cellsOf ((ev cx x).f env loc))) n && (cellsOf ((ev cx x).f env loc)).all oneCell) = q at h
        cases q with
        | false => cases h
        | true => exact fill_keep r size _ h

theorem guardK_keep {kd n : Nat} {r : RV} (h : guardK kd n r = .ok v st') (k : r = .ok v st' → st' = st) : st' = st := by
  unfold guardK at h
  cases hb : Nat.beq kd n with
  | false => rw [hb] at h; cases h
  | true => rw [hb] at h; exact k h
theorem eqCell_keep {k : Nat} {x y : CV} {K : Bool → RV} (hK : ∀ b, K b = .ok v st' → st' = st) (h : eqCell k x y K = .ok v st') : st' = st := by
  unfold eqCell at h
  cases x <;> simp only at h <;> try (cases h; done)
  all_goals
    cases y <;> simp only at h <;> try (cases h; done)
  · rename_i a b
    cases hb : Nat.beq k 3 <;> rw [hb] at h <;> first | (cases h; done) | exact hK _ h
  · rename_i i a j b
    cases hb : Nat.beq k 1 && decide (i = j) <;> rw [hb] at h <;> first | (cases h; done) | exact hK _ h
  · rename_i l n m q
    cases hb : Nat.beq k 2 <;> rw [hb] at h <;> first | (cases h; done) | exact hK _ h
theorem eqCells_keep {xs ys : List CV} {K : Bool → RV} (hK : ∀ b, K b = .ok v st' → st' = st) : ∀ (l : List (Nat × Nat)), eqCells xs ys K l = .ok v st' → st' = st
  | [], h => hK _ h
  | (o, k) :: l, h => by
    have h' : (match xs[o]? with
      | some a => match ys[o]? with
        | some b => eqCell k a b fun t => bif t then eqCells xs ys K l else K false
        | none => .err 227
      | none => .err 228) = RV.ok v st' := h
    cases hx : xs[o]? with
    | none => rw [hx] at h'; cases h'
    | some a =>
      cases hy : ys[o]? with
      | none => rw [hx, hy] at h'; cases h'
      | some b =>
        rw [hx, hy] at h'
        refine eqCell_keep (fun t ht => ?_) h'
        cases t with
        | true => exact eqCells_keep hK l ht
        | false => exact hK _ ht
theorem eqNil_keep {kd : Nat} {lit : Bool} {es : Option (List (Nat × Nat))} {pq : Nat → Nat → Bool} {x y : CV} {K : Bool → RV} (hK : ∀ b, K b = .ok v st' → st' = st) (h : eqNil kd lit es pq x y K = .ok v st') : st' = st := by
  unfold eqNil at h
  cases x <;> cases y <;> simp only at h <;> first
    | (cases h; done)
    | exact guardK_keep h (hK _)
    | (cases lit <;> first | (cases h; done) | exact guardK_keep h (hK _))
    | (cases es <;> first | (cases h; done) | exact eqCells_keep hK _ h)
    | (rename_i b o b' o'; cases hb : Nat.beq b b' <;> rw [hb] at h <;> first | (cases h; done) | exact guardK_keep h (hK _) | (simp only [cond_false] at h; cases hp : pq b b' <;> rw [hp] at h <;> first | (cases h; done) | exact guardK_keep h (hK _)))
theorem ok_keep {u : CV} (h : RV.ok u st = .ok v st') : st' = st := by cases h; rfl
theorem intV_keep {k : IntKind} {n : Int} (h : intV k n st = .ok v st') : st' = st := by rw [intV_eq] at h; exact ok_keep h
theorem binAny_keep {kd : Nat} {lit : Bool} {es : Option (List (Nat × Nat))} {op : BinOp} {x : CV} {y : Ev} (h : binAny kd lit es op x y env loc st = .ok v st') : st' = st := by
  have other : ∀ u, (binOther kd lit es op).f u (y.f env loc) st = .ok v st' → st' = st := by
    intro u h
    unfold binOther at h
    cases op <;> simp only at h <;> first
      | (cases h; done)
      | exact eqNil_keep (fun _ h => ok_keep h) h
  unfold binAny at h
  cases x <;> simp only at h <;> try exact other _ h
  · cases hy : y.f env loc <;> rw [hy] at h <;> simp only at h <;> try (cases h; done)
    rename_i k a k' b
    cases hk : decide (k = k') <;> rw [hk] at h <;> simp only at h <;> try (cases h; done)
    unfold binInt at h
    cases op <;> simp only at h <;> first
      | (cases h; done)
      | exact intV_keep h
      | exact ok_keep h
      | (cases hd : decide (b = 0) <;> rw [hd] at h <;> simp only [forceI_eq] at h <;> first | (cases h; done) | exact intV_keep h | exact ok_keep h)
  · cases hy : y.f env loc <;> rw [hy] at h <;> simp only at h <;> try (cases h; done)
    unfold binStr at h
    cases op <;> simp only at h <;> first
      | (cases h; done)
      | exact ok_keep h
      | (rename_i l n m k; cases hd : Nat.ble (Nat.add l m) 4294967296 <;> rw [hd] at h <;> simp only [cond_true, cond_false, strV, forceN_eq] at h <;> first | (cases h; done) | exact ok_keep h)
  · unfold symGtr at h
    cases op <;> simp only at h <;> try (cases h; done)
    cases hy : y.f env loc <;> rw [hy] at h <;> simp only at h <;> try (cases h; done)
    rename_i k n
    cases hc : (decide (k = .i64) && decide (n = 67108864)) <;> rw [hc] at h <;> first | (cases h; done) | exact ok_keep h
  · unfold symRem at h
    cases op <;> simp only at h <;> try (cases h; done)
    cases hy : y.f env loc <;> rw [hy] at h <;> simp only at h <;> try (cases h; done)
    rename_i k n
    cases hc : (decide (k = .i64) && decide (n = 40)) <;> rw [hc] at h <;> first | (cases h; done) | exact ok_keep h
theorem loadAt_keep {g : Bool} {n b o : Nat} (h : loadAt g n b o st (fun v => .ok v st) = .ok v st') : st' = st := by
  unfold loadAt at h
  cases hc : cellsAt b st with
  | none => rw [hc] at h; cases h
  | some cells =>
    rw [hc] at h
    cases g <;> simp only at h
    · cases hg : cells.get o <;> rw [hg] at h <;> simp only at h <;> first | (cases h; done) | exact ok_keep h
    · cases hg : loadN cells n o <;> rw [hg] at h <;> simp only at h <;> first | (cases h; done) | exact ok_keep h
theorem ixAddr_keep {es b o l : Nat} {i : CV} (h : ixAddr es b o l i st = .ok v st') : st' = st := by
  unfold ixAddr at h
  cases i <;> simp only at h <;> try (cases h; done)
  rename_i k n
  cases n <;> simp only at h <;> try (cases h; done)
  rename_i n
  cases hb : Nat.blt n l <;> rw [hb] at h <;> simp only [cond_true, cond_false, forceN_eq] at h <;> first | (cases h; done) | exact ok_keep h

theorem sliceStr_keep {l n lo hi : Nat} (h : sliceStr l n lo hi st = .ok v st') : st' = st := by
  unfold sliceStr at h
  generalize (Nat.ble lo hi && Nat.ble hi l) = q at h
  cases q <;> simp only [cond_true, cond_false, strV, forceN_eq] at h <;> first | (cases h; done) | exact ok_keep h
theorem intAt_keep {x : CV} {K : Nat → RV} (hK : ∀ n, K n = .ok v st' → st' = st) (h : intAt x K = .ok v st') : st' = st := by
  unfold intAt at h
  cases x <;> simp only at h <;> try (cases h; done)
  rename_i k n
  cases n <;> simp only at h <;> first | (cases h; done) | exact hK _ h
theorem optInt_keep {x : Option Operand} {d : Nat} {K : Nat → RV} (hK : ∀ n, K n = .ok v st' → st' = st) (h : (optInt cx x).f env loc d K = .ok v st') : st' = st := by
  cases x with
  | none => exact hK d h
  | some y => exact intAt_keep hK h

theorem keyEq_keep {x y : CV} {K : Bool → RV} (hK : ∀ b, K b = .ok v st' → st' = st) (h : keyEq x y K = .ok v st') : st' = st := by
  unfold keyEq at h
  cases x <;> simp only at h <;> try (cases h; done)
  · cases y <;> simp only at h <;> try (cases h; done)
    split at h
    · exact hK _ h
    · cases h
  · cases y <;> simp only at h <;> first | (cases h; done) | exact hK _ h
theorem findE_keep {x : CV} {K : Option CV → RV} (hK : ∀ b, K b = .ok v st' → st' = st) : ∀ (es : List Ent), findE x K es = .ok v st' → st' = st
  | [], h => hK _ h
  | e :: es, h => by
    have h' : keyEq x e.key (fun b => bif b then K (some e.val) else findE x K es) = .ok v st' := h
    refine keyEq_keep (fun b hb => ?_) h'
    cases b with
    | true => exact hK _ hb
    | false => exact findE_keep hK es hb
theorem keyForce_keep {kd : Nat} {x : CV} {K : CV → RV} (hK : ∀ b, K b = .ok v st' → st' = st) (h : keyForce kd x K = .ok v st') : st' = st := by
  unfold keyForce at h
  cases x <;> simp only at h <;> try (cases h; done)
  · rename_i k a
    cases hb : Nat.beq kd 2 <;> rw [hb] at h <;> first | (cases h; done) | exact hK _ h
  · rename_i l n
    cases hb : Nat.beq kd 1 <;> rw [hb] at h <;> first | (cases h; done) | exact hK _ h
theorem lookAns_keep {ok b : Bool} {u : CV} (h : lookAns ok u b st = .ok v st') : st' = st := by
  unfold lookAns at h
  cases ok <;> exact ok_keep h

theorem packC_keep : ∀ (cs : List CV) {K : Nat → RV} {v : CV} {st st' : St}, packC cs K = .ok v st' → (∀ n, K n = .ok v st' → st' = st) → st' = st
  | [], K, v, st, st', h, hk => hk 0 h
  | c :: cs, K, v, st, st', h, hk => by
    unfold packC at h
    cases c <;> try (cases h; done)
    rename_i k m
    cases m with
    | negSucc m => cases h
    | ofNat m =>
      simp only at h
      cases hb : decide (k = .u8) && Nat.blt m 256 with
      | false => rw [hb] at h; cases h
      | true =>
        rw [hb] at h
        exact packC_keep cs (K := fun r => forceN K (Nat.add m (Nat.mul 256 r))) h fun n hn => hk _ (by rw [forceN_eq] at hn; exact hn)
theorem bif_keep {c : Bool} {u v : CV} {n : Nat} {st st' : St} (h : (bif c then RV.ok u st else .err n) = .ok v st') : st' = st := by
  cases c
  · cases h
  · cases h; rfl
theorem toUnsafe_keep {u v : CV} {st st' : St} (h : toUnsafe u st = .ok v st') : st' = st := by
  unfold toUnsafe at h
  cases u <;> simp only at h <;> try (cases h; done)
  · split at h
    · split at h
      · exact bif_keep h
      · cases h
    · cases h
  · cases h; rfl
theorem fromUnsafe_keep {u0 : Nat} {u v : CV} {st st' : St} (h : fromUnsafe P u0 u st = .ok v st') : st' = st := by
  unfold fromUnsafe at h
  cases u <;> simp only at h <;> try (cases h; done)
  · split at h
    · split at h
      · split at h
        · exact bif_keep h
        · cases h
      · cases h
    · cases h
  · cases h; rfl
theorem strOfBytes_keep {u v : CV} {st st' : St} (h : strOfBytes u st = .ok v st') : st' = st := by
  unfold strOfBytes at h
  cases u <;> try (cases h; done)
  · rename_i b o l c q
    simp only at h
    cases hc : cellsAt b st with
    | none => rw [hc] at h; cases h
    | some cells =>
      rw [hc] at h
      simp only at h
      cases hl : loadN cells l o with
      | none => rw [hl] at h; cases h
      | some cs =>
        rw [hl] at h
        exact packC_keep cs h fun n hn => by cases hn; rfl
  · cases h; rfl
theorem reads_keep {op : Op} (hr : reads P op = true) (h : (opF P cx op).f call env loc st = .ok v st') : st' = st := by
  cases op <;> simp only [reads] at hr <;> try (cases hr; done)
  all_goals simp only [opF] at h
  case move => exact ok_keep h
  case assign => exact ok_keep h
  case pick c a b =>
    unfold oPick at h
    simp only at h
    cases hc : (ev cx c).f env loc <;> rw [hc] at h <;> simp only at h <;> try (cases h; done)
    rename_i t
    cases t <;> exact ok_keep h
  case build t parts =>
    unfold oBuild at h
    split at h
    · split at h
      · split at h
        · exact fill_keep _ _ _ h
        · cases h
      · split at h
        · exact fill_keep _ _ _ h
        · cases h
      · cases h
    · cases h
  case load t a =>
    unfold oLoad at h
    split at h
    · simp only at h
      cases hc : (ev cx a).f env loc <;> rw [hc] at h <;> simp only at h <;> try (cases h; done)
      exact loadAt_keep h
    · cases h
  case nilCheck x =>
    unfold oNilCheck at h
    simp only at h
    cases hc : (ev cx x).f env loc <;> rw [hc] at h <;> simp only at h <;> try (cases h; done)
    · exact ok_keep h
    · exact ok_keep h
    · rename_i f _ _
      cases f <;> simp only at h <;> first | (cases h; done) | exact ok_keep h
  case binOp op t x y t2 =>
    unfold oBinOp at h
    split at h
    · simp only at h
      cases hx : (ev cx x).f env loc <;> rw [hx] at h <;> simp only at h <;> try (cases h; done)
      cases hy : (ev cx y).f env loc <;> rw [hy] at h <;> simp only at h <;> try (cases h; done)
      rename_i k a _ b
      unfold shiftInt at h
      cases op <;> simp only at h <;> try (cases h; done)
      · cases b <;> simp only at h <;> first | (cases h; done) | exact intV_keep h
      · cases b <;> simp only [forceI_eq] at h <;> first | (cases h; done) | exact ok_keep h
    · exact binAny_keep h
  case unOp op t x =>
    unfold oUnOp at h
    cases op <;> simp only at h <;> try (cases h; done)
    · cases hx : (ev cx x).f env loc <;> rw [hx] at h <;> simp only at h <;> first | (cases h; done) | exact intV_keep h
    · cases hx : (ev cx x).f env loc <;> rw [hx] at h <;> simp only at h <;> first | (cases h; done) | exact ok_keep h
  case convert s t x =>
    unfold oConvert at h
    split at h
    · split at h
      · simp only at h
        cases hx : (ev cx x).f env loc <;> rw [hx] at h <;> simp only at h <;> first | (cases h; done) | exact intV_keep h
      · split at h
        · split at h
          · exact strOfBytes_keep h
          · cases h
        · simp only at h
          cases hx : (ev cx x).f env loc <;> rw [hx] at h <;> simp only at h <;> first | (cases h; done) | exact ok_keep h
      · rename_i h2
        rw [h2] at hr
        cases hr
      · split at h
        · split at h
          · cases h
          · exact toUnsafe_keep h
        · cases h
      · split at h
        · exact fromUnsafe_keep h
        · cases h
      · cases h
    · cases h
  case slice t x lo hi mx =>
    unfold oSlice at h
    split at h
    · split at h
      · simp only at h
        unfold strOf at h
        cases hx : (ev cx x).f env loc <;> rw [hx] at h <;> simp only at h <;> try (cases h; done)
        refine optInt_keep (fun n h => optInt_keep (fun m h => ?_) h) h
        exact sliceStr_keep h
      · cases h
    · cases h
  case fieldAddr t x f =>
    unfold oFieldAddr at h
    split at h
    · simp only at h
      cases hx : (ev cx x).f env loc <;> rw [hx] at h <;> simp only [forceN_eq] at h <;> first | (cases h; done) | exact ok_keep h
    · cases h
  case indexAddr t x i =>
    unfold oIndexAddr at h
    split at h
    · split at h
      · split at h
        · simp only at h
          cases hx : (ev cx x).f env loc <;> rw [hx] at h <;> simp only at h <;> first | (cases h; done) | exact ixAddr_keep h
        · cases h
      · split at h
        · simp only at h
          cases hx : (ev cx x).f env loc <;> rw [hx] at h <;> simp only at h <;> first | (cases h; done) | exact ixAddr_keep h
        · cases h
      · cases h
    · cases h
  case index t x i =>
    unfold oIndex at h
    split at h
    · split at h
      · simp only at h
        cases hx : (ev cx x).f env loc <;> rw [hx] at h <;> simp only at h <;> try (cases h; done)
        cases hi : (ev cx i).f env loc <;> rw [hi] at h <;> simp only at h <;> try (cases h; done)
        rename_i l n k m
        cases m <;> simp only at h <;> try (cases h; done)
        rename_i m
        cases hb : Nat.blt m l <;> rw [hb] at h <;> simp only [cond_true, cond_false, forceN_eq] at h <;> first | (cases h; done) | exact ok_keep h
      · cases h
    · cases h
  case extract x i =>
    unfold oExtract at h
    simp only at h
    cases hx : (ev cx x).f env loc <;> rw [hx] at h <;> simp only at h <;> try (cases h; done)
    rename_i l
    cases hg : l[i]? <;> rw [hg] at h <;> simp only at h <;> first | (cases h; done) | exact ok_keep h
  case field t x f =>
    unfold oField at h
    generalize fieldOf P t f = fo at h
    rcases fo with _ | ⟨off, g, n⟩
    · cases h
    · cases g with
      | true =>
        simp only at h
        cases hx : (ev cx x).f env loc <;> rw [hx] at h <;> simp only at h <;> first | (cases h; done) | exact ok_keep h
      | false =>
        simp only at h
        cases hx : (ev cx x).f env loc <;> rw [hx] at h <;> simp only at h <;> try (cases h; done)
        split at h
        · exact ok_keep h
        · cases h
  case makeInterface t x =>
    unfold oMakeIface at h
    split at h
    · split at h
      · cases h
      · exact ok_keep h
    · cases h
  case makeFunc f fi ca => exact ok_keep h
  case typeAssert x t0 t ok =>
    unfold oAssert at h
    split at h
    · simp only at h
      cases hx : (ev cx x).f env loc <;> rw [hx] at h <;> simp only at h <;> try (cases h; done)
      · rename_i t' v'
        cases hb : Nat.beq t' t <;> rw [hb] at h <;> exact ok_keep h
      · exact ok_keep h
    · simp only at h
      cases hx : (ev cx x).f env loc <;> rw [hx] at h <;> simp only at h <;> try (cases h; done)
      rename_i t' v'
      cases hb : Nat.beq t' t <;> rw [hb] at h <;> first | (cases h; done) | exact ok_keep h
    · cases h
  case lookup t m k ok =>
    unfold oLookup at h
    generalize mapOf P t = mi at h
    rcases mi with _ | ⟨kd, z⟩
    · cases h
    · cases z with
      | none => cases h
      | some z =>
        simp only at h
        cases hx : (ev cx m).f env loc <;> rw [hx] at h <;> simp only at h <;> try (cases h; done)
        · rename_i b
          cases hg : st.heap.get b with
          | none => rw [hg] at h; cases h
          | some ob =>
            rw [hg] at h
            cases ob <;> simp only at h <;> try (cases h; done)
            refine keyForce_keep (fun key hk => findE_keep (fun r hr => ?_) _ hk) h
            cases r <;> exact lookAns_keep hr
        · exact lookAns_keep h
  case call c =>
    cases hc : c.callee <;> rw [hc] at hr <;> simp only at hr <;> try (cases hr; done)
    rename_i b
    unfold oCall at h
    rw [hc] at h
    simp only at h
    unfold oBuiltin at h
    generalize c.args.toList = A at h
    generalize c.argTypes.toList = Ts at h
    cases b <;> simp only at hr <;> try (cases hr; done)
    · rcases A with _ | ⟨x, _ | ⟨y, A⟩⟩ <;> rcases Ts with _ | ⟨t, _ | ⟨t2, Ts⟩⟩ <;> simp only at h <;> try (cases h; done)
      split at h
      · split at h
        · simp only at h
          unfold lenStr at h
          cases hx : (ev cx x).f env loc <;> rw [hx] at h <;> simp only at h <;> first | (cases h; done) | exact ok_keep h
        · simp only at h
          unfold lenSl at h
          cases hx : (ev cx x).f env loc <;> rw [hx] at h <;> simp only at h <;> first | (cases h; done) | exact ok_keep h
        · exact ok_keep h
        · simp only at h
          unfold lenMap at h
          cases hx : (ev cx x).f env loc <;> rw [hx] at h <;> simp only at h <;> try (cases h; done)
          · split at h
            · split at h
              · rename_i es _ _
                have key : ∀ (l : List Ent) (n : Nat), (List.rec (motive := fun _ => Nat → RV) (fun n => .ok (.int .i64 (.ofNat n)) st) (fun _ _ ih n => forceN ih (Nat.succ n)) l : Nat → RV) n = .ok v st' → st' = st := by
                  intro l
                  induction l with
                  | nil => intro n h; exact ok_keep h
                  | cons y r ih =>
                    intro n h
                    refine ih (Nat.succ n) ?_
                    rw [← forceN_eq (List.rec (motive := fun _ => Nat → RV) (fun n => .ok (.int .i64 (.ofNat n)) st) (fun _ _ ih n => forceN ih (Nat.succ n)) r)]
                    exact h
                exact key _ _ h
              · cases h
            · cases h
          · exact ok_keep h
        · cases h
      · cases h
    · rcases A with _ | ⟨x, _ | ⟨y, _ | ⟨z, A⟩⟩⟩ <;> simp only at h <;> try (cases h; done)
      unfold oMax at h
      simp only at h
      cases hx : (ev cx x).f env loc <;> rw [hx] at h <;> simp only at h <;> try (cases h; done)
      cases hy : (ev cx y).f env loc <;> rw [hy] at h <;> simp only at h <;> try (cases h; done)
      split at h <;> exact ok_keep h
    · rcases A with _ | ⟨x, _ | ⟨y, _ | ⟨z, A⟩⟩⟩ <;> simp only at h <;> try (cases h; done)
      unfold oMin at h
      simp only at h
      cases hx : (ev cx x).f env loc <;> rw [hx] at h <;> simp only at h <;> try (cases h; done)
      cases hy : (ev cx y).f env loc <;> rw [hy] at h <;> simp only at h <;> try (cases h; done)
      split at h <;> exact ok_keep h

end
end Go.Proofs.YtbmbjaogcmokoaaGreatDoorX
