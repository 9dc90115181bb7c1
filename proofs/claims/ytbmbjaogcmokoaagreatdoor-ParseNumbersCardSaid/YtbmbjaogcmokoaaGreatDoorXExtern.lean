/- Library functions without a body. -/
import Derived.Test.YtbmbjaogcmokoaaGreatDoorXOps8
import Derived.Laws.Externs
import Derived.Lib.Bytealg
import Derived.KernelRfl
namespace Go.Proofs.YtbmbjaogcmokoaaGreatDoorX
open Go Go.RowKit
set_option linter.unusedVariables false

section
variable {sy : Sy} {G : Nat} {B : Kp} {w0 : World} {P : Program} {ρ ρ' : Ren} {cx : Cx} {env : List CV} {loc : Loc} {a : Act} {st st' : St} {w w' : World} {o : Oper} {call : Caller}

theorem findName_spec (s : String) : ∀ (l : List (String × Nat)) (n : Nat), findName s l = n → n ≠ 0 → (s, n) ∈ l
  | [], n, h, hn => absurd h.symm hn
  | (t, m) :: r, n, h, hn => by
    unfold findName at h
    simp only at h
    cases hs : s == t with
    | true =>
      rw [hs] at h
      simp only [cond_true] at h
      have : s = t := by simpa using hs
      subst this; subst h
      simp
    | false =>
      rw [hs] at h
      exact List.mem_cons_of_mem _ (findName_spec s r n h hn)
theorem externId_spec {g n : Nat} (h : externId P g = n) (hn : n ≠ 0) : ∃ fn, P.funcs[g]? = some fn ∧ fn.body.isNone = true ∧ fn.origin = "" ∧ (fn.name, n) ∈ externNames := by
  unfold externId at h
  cases hf : P.funcs[g]? with
  | none => rw [hf] at h; exact absurd h.symm hn
  | some fn =>
    rw [hf] at h
    simp only at h
    cases hb : fn.body with
    | some c => rw [hb] at h; exact absurd h.symm hn
    | none =>
      rw [hb] at h
      simp only at h
      cases ho : fn.origin == "" with
      | false => rw [ho] at h; exact absurd h.symm hn
      | true =>
        rw [ho] at h
        exact ⟨fn, rfl, by rw [hb]; rfl, by simpa using ho, findName_spec _ _ _ h hn⟩

theorem next_IndexByteString : Extern.allNextRows.lookup "internal/bytealg.IndexByteString" = none := by kernel_rfl
theorem next_NoEscape : Extern.allNextRows.lookup "internal/abi.NoEscape" = none := by kernel_rfl
theorem gen_NoEscape : Extern.allGenericRows.lookup "internal/abi.NoEscape" = none := by kernel_rfl
theorem typed_NoEscape : Extern.allTypedRows.lookup "internal/abi.NoEscape" = none := by kernel_rfl
theorem row_NoEscape : Extern.allRows.lookup "internal/abi.NoEscape" = some Extern.AbiNoEscape.same := by kernel_rfl
theorem next_none : Extern.allNextRows.lookup "" = none := by kernel_rfl
theorem gen_IndexByteString : Extern.allGenericRows.lookup "internal/bytealg.IndexByteString" = none := by kernel_rfl
theorem typed_IndexByteString : Extern.allTypedRows.lookup "internal/bytealg.IndexByteString" = none := by kernel_rfl
theorem row_IndexByteString : Extern.allRows.lookup "internal/bytealg.IndexByteString" = some Extern.BytealgIndexByte.indexByte := by kernel_rfl

theorem idxByte_eq (c : Nat) (hc : c < 256) : ∀ (l n i : Nat), idxByte c l n i = if Lib.indexByte (bytesL l n) c.toUInt8 = -1 then -1 else Lib.indexByte (bytesL l n) c.toUInt8 + i
  | 0, n, i => by
    have : idxByte c 0 n i = -1 := rfl
    rw [this]
    simp [bytesL, Lib.indexByte]
  | l + 1, n, i => by
    have e : idxByte c (l + 1) n i = bif Nat.beq (Nat.mod n 256) c then .ofNat i else idxByte c l (Nat.div n 256) (Nat.succ i) := rfl
    rw [e, bytesL_succ]
    unfold Lib.indexByte
    have hb : (UInt8.ofNat n == c.toUInt8) = Nat.beq (Nat.mod n 256) c := by
      apply Bool.eq_iff_iff.2
      rw [beq_iff_eq, Nat.beq_eq, ← UInt8.toNat_inj]
      simp [UInt8.toNat_ofNat']
      rw [Nat.mod_eq_of_lt hc]
      rfl
    rw [hb]
    cases h : Nat.beq (Nat.mod n 256) c with
    | true => simp
    | false =>
      simp only [cond_false, Bool.false_eq_true, if_false]
      rw [idxByte_eq c hc l (Nat.div n 256) (Nat.succ i)]
      have hge := Lib.indexByte_ge (bytesL l (n / 256)) c.toUInt8
      show (if Lib.indexByte (bytesL l (n / 256)) c.toUInt8 = -1 then _ else Lib.indexByte (bytesL l (n / 256)) c.toUInt8 + ((i + 1 : Nat) : Int)) = _
      generalize Lib.indexByte (bytesL l (n / 256)) c.toUInt8 = q at *
      by_cases hq : q = -1
      · simp [hq]
      · have hq' : (q == -1) = false := by simpa using hq
        rw [hq']
        simp only [Bool.false_eq_true, if_false, if_neg hq]
        rw [if_neg (by omega)]
        omega

theorem next_LoadPointer : Extern.allNextRows.lookup "sync/atomic.LoadPointer" = none := by kernel_rfl
theorem gen_LoadPointer : Extern.allGenericRows.lookup "sync/atomic.LoadPointer" = none := by kernel_rfl
theorem typed_LoadPointer : Extern.allTypedRows.lookup "sync/atomic.LoadPointer" = none := by kernel_rfl
theorem row_LoadPointer : Extern.allRows.lookup "sync/atomic.LoadPointer" = some (Extern.Atomic.loadT .ptr) := by kernel_rfl
theorem next_StorePointer : Extern.allNextRows.lookup "sync/atomic.StorePointer" = none := by kernel_rfl
theorem gen_StorePointer : Extern.allGenericRows.lookup "sync/atomic.StorePointer" = none := by kernel_rfl
theorem typed_StorePointer : Extern.allTypedRows.lookup "sync/atomic.StorePointer" = none := by kernel_rfl
theorem row_StorePointer : Extern.allRows.lookup "sync/atomic.StorePointer" = some (Extern.Atomic.storeT) := by kernel_rfl
theorem next_Disable : Extern.allNextRows.lookup "internal/race.Disable" = none := by kernel_rfl
theorem gen_Disable : Extern.allGenericRows.lookup "internal/race.Disable" = none := by kernel_rfl
theorem typed_Disable : Extern.allTypedRows.lookup "internal/race.Disable" = none := by kernel_rfl
theorem row_Disable : Extern.allRows.lookup "internal/race.Disable" = some (fun _ => do mark .disable; pure Extern.Race.none_) := by kernel_rfl
theorem next_Enable : Extern.allNextRows.lookup "internal/race.Enable" = none := by kernel_rfl
theorem gen_Enable : Extern.allGenericRows.lookup "internal/race.Enable" = none := by kernel_rfl
theorem typed_Enable : Extern.allTypedRows.lookup "internal/race.Enable" = none := by kernel_rfl
theorem row_Enable : Extern.allRows.lookup "internal/race.Enable" = some (fun _ => do mark .enable; pure Extern.Race.none_) := by kernel_rfl
theorem next_Acquire : Extern.allNextRows.lookup "internal/race.Acquire" = none := by kernel_rfl
theorem gen_Acquire : Extern.allGenericRows.lookup "internal/race.Acquire" = none := by kernel_rfl
theorem typed_Acquire : Extern.allTypedRows.lookup "internal/race.Acquire" = none := by kernel_rfl
theorem row_Acquire : Extern.allRows.lookup "internal/race.Acquire" = some (Extern.Race.marked .acquire) := by kernel_rfl
theorem next_ReleaseMerge : Extern.allNextRows.lookup "internal/race.ReleaseMerge" = none := by kernel_rfl
theorem gen_ReleaseMerge : Extern.allGenericRows.lookup "internal/race.ReleaseMerge" = none := by kernel_rfl
theorem typed_ReleaseMerge : Extern.allTypedRows.lookup "internal/race.ReleaseMerge" = none := by kernel_rfl
theorem row_ReleaseMerge : Extern.allRows.lookup "internal/race.ReleaseMerge" = some (Extern.Race.marked .releaseMerge) := by kernel_rfl
theorem next_AddInt32 : Extern.allNextRows.lookup "sync/atomic.AddInt32" = none := by kernel_rfl
theorem gen_AddInt32 : Extern.allGenericRows.lookup "sync/atomic.AddInt32" = none := by kernel_rfl
theorem typed_AddInt32 : Extern.allTypedRows.lookup "sync/atomic.AddInt32" = none := by kernel_rfl
theorem row_AddInt32 : Extern.allRows.lookup "sync/atomic.AddInt32" = some (Extern.Atomic.update (Op.intArith .add) .i32 true) := by kernel_rfl
theorem next_CasInt32 : Extern.allNextRows.lookup "sync/atomic.CompareAndSwapInt32" = none := by kernel_rfl
theorem gen_CasInt32 : Extern.allGenericRows.lookup "sync/atomic.CompareAndSwapInt32" = none := by kernel_rfl
theorem typed_CasInt32 : Extern.allTypedRows.lookup "sync/atomic.CompareAndSwapInt32" = none := by kernel_rfl
theorem row_CasInt32 : Extern.allRows.lookup "sync/atomic.CompareAndSwapInt32" = some (Extern.Atomic.casT (.int .i32)) := by kernel_rfl

theorem loadT_one (t : Extern.Atomic.T) (x : Value) : Extern.Atomic.loadT t #[x] = (do Extern.Atomic.read t (← asAddr x)) := rfl
theorem storeT_two (x y : Value) : Extern.Atomic.storeT #[x, y] = (do store (← asAddr x) y .atomic; pure Extern.Atomic.none_) := rfl
theorem update_two (op : IntKind → Int → Int → Sem Value) (k : IntKind) (rn : Bool) (x y : Value) : Extern.Atomic.update op k rn #[x, y] = (do
    let a ← asAddr x
    let old ← Extern.Atomic.read (.int k) a
    let new ← op k (← asInt old) (← asInt y)
    store a new .atomic
    pure (if rn then new else old)) := rfl
theorem casT_three (x y z : Value) : Extern.Atomic.casT (.int .i32) #[x, y, z] = (do
    let a ← asAddr x
    if ← Extern.Atomic.touchesFrozen a then unsupported (.unsafePointer "a write to bytes that a string shares")
    let eq ← match Extern.Atomic.T.int .i32, ← Extern.Atomic.read (.int .i32) a, y with
      | _, .int _ x, .int _ y => pure (x == y)
      | .ptr, .pointer x, .pointer y => samePointer x y
      | .int _, .pointer (some _), .int _ 0 | .int _, .int _ 0, .pointer (some _) => pure false
      | .int _, .pointer (some _), _ | .int _, _, .pointer (some _) => unsupported .addressObserved
      | _, _, _ => stuck "atomic.CompareAndSwap: old is no T"
    if eq then store a z .atomic
    pure (.bool eq)) := rfl
/-- a cell that is read -/
theorem cellAt_rel (hw : WRel sy G B w0 ρ st w) {b o : Nat} {i : BI} (hi : ρ b = some i) {K : CV → RV} {r : RV} (hr : cellAt b o st K = r) :
    (∃ k, r = .err k) ∨ ∃ v v', K v = r ∧ VRel sy ρ v v' ∧ w.cell? ⟨i.blk, o + i.sh, none⟩ = some v' := by
  unfold cellAt at hr
  cases hc : cellsAt b st with
  | none => rw [hc] at hr; exact .inl ⟨_, hr.symm⟩
  | some cells =>
    rw [hc] at hr
    simp only at hr
    obtain ⟨i', c, e, fz, h1, h2, h3⟩ := cellsAt_rel hw hc
    rw [hi] at h1; cases h1
    cases hg : cells.get o with
    | none => rw [hg] at hr; exact .inl ⟨_, hr.symm⟩
    | some v =>
      rw [hg] at hr
      obtain ⟨v', k1, k2⟩ := h3 _ _ hg
      exact .inr ⟨v, v', hr, k2, by rw [cell_row h2]; exact k1⟩
/-- a cell that is written, in whatever mode -/
theorem store1_rel {v : CV} {v' : Value} {b o : Nat} {i : BI} {K : St → RV} {r : RV} (hv : VRel sy ρ v v') (hw : WRel sy G B w0 ρ st w) (hi : ρ b = some i) (hr : storeAt [v] b o st K = r) :
    (∃ k, r = .err k) ∨ ∃ st' w', K st' = r ∧ st'.dfs = st.dfs ∧ WRel sy G B w0 ρ st' w' ∧ w.frozen? ⟨i.blk, o + i.sh, none⟩ = false ∧ ∀ m, (store ⟨i.blk, o + i.sh, none⟩ v' m).run P w = .ok () w' := by
  have hr0 := hr
  rcases storeAt_rel (P := P) (VRels.cons hv VRels.nil) hw hi hr with h | ⟨st', w', h1, h2, h3, h4⟩
  · exact .inl h
  · -- the cell is there
    unfold storeAt at hr0
    cases hb : st.heap.get b with
    | none => rw [hb] at hr0; exact .inl ⟨_, hr0.symm⟩
    | some x =>
      rw [hb] at hr0
      cases x <;> simp only at hr0 <;> try exact .inl ⟨_, hr0.symm⟩
      rename_i cells m es fr inf
      cases hc : (Nat.ble fr o && (Nat.ble (Nat.add o (len [v])) m && [v].all oneCell)) with
      | false => rw [hc] at hr0; exact .inl ⟨_, hr0.symm⟩
      | true =>
        simp only [Bool.and_eq_true, Nat.ble_eq, len_eq] at hc
        obtain ⟨c1, c2, _⟩ := hc
        have c2' : o + 1 ≤ m := c2
        obtain ⟨i', c, e, fz, k1, _, _, k4, k5, _, k7⟩ := hw.obj b _ hb
        rw [hi] at k1; cases k1
        have hlt : o + i.sh < c.size := by omega
        have hcell : w.cell? ⟨i.blk, o + i.sh, none⟩ = some c[o + i.sh] := by rw [cell_row k4]; simp [hlt]
        have hfz : w.frozen? ⟨i.blk, o + i.sh, none⟩ = false := by
          have := k7 o c1 (by omega)
          simp only [World.frozen?, k4]
          simpa using this
        refine .inr ⟨st', w', h1, h2, h3, hfz, fun m => ?_⟩
        rw [← h4]
        unfold storeCells
        cases v' <;> simp [store, Sem.run, hcell, hfz, storeCells, Addr.add]

theorem extern_row {g : Nat} {fn : Func} {e : Array Value → Sem Value} {args' : Array Value} (hf : P.funcs[g]? = some fn) (hb : fn.body.isNone = true) (ho : fn.origin = "")
    (h1 : Extern.allNextRows.lookup fn.name = none) (h2 : Extern.allGenericRows.lookup fn.name = none) (h3 : Extern.allTypedRows.lookup fn.name = none) (h4 : Extern.allRows.lookup fn.name = some e) (hne : (fn.name == "runtime.NumGoroutine") = false) :
    (callFunc g args').run P w = ((e args').run P w).andThen fun v w' => .ok (.value v) w' := by
  have hn : Extern.findNext fn = none := by
    unfold Extern.findNext
    simp only [ho, h1, next_none]
    rfl
  have he : Extern.find fn = some e := by
    unfold Extern.find
    simp only [h2, h3, h4]
    rfl
  exact run_callFunc_extern hf hne hb hn he _ _

/-- what a library function without a body owes -/
def ExtR (sy : Sy) (G : Nat) (B : Kp) (w0 : World) (P : Program) (ρ : Ren) (st : St) (w : World) (g : Nat) (args' : List Value) (r : RV) : Prop :=
  (∃ k, r = .err k) ∨ ∃ v v' st' w', r = .ok v st' ∧ st'.dfs = st.dfs ∧ VRel sy ρ v v' ∧ WRel sy G B w0 ρ st' w' ∧ (callFunc g args'.toArray).run P w = .ok (.value v') w'
theorem ExtR.same {g : Nat} {args' : List Value} {v : CV} {v' : Value} (hw : WRel sy G B w0 ρ st w) (hv : VRel sy ρ v v') (hrun : (callFunc g args'.toArray).run P w = .ok (.value v') w) : ExtR sy G B w0 P ρ st w g args' (.ok v st) :=
  .inr ⟨v, v', st, w, rfl, rfl, hv, hw, hrun⟩

/-- a library function without a body -/
theorem extern_ok {g : Nat} {args : List CV} {args' : List Value} {r : RV} (hw : WRel sy G B w0 ρ st w) (ha : VRels sy ρ args args') (hr : externF (externId P g) args st = r) : ExtR sy G B w0 P ρ st w g args' r := by
  generalize hid : externId P g = n at hr
  unfold externF at hr
  split at hr
  · obtain ⟨fn, hf, hb, ho, hor⟩ := externId_spec hid (by decide)
    have hname : fn.name = "internal/bytealg.IndexByteString" := by simpa [externNames] using hor
    unfold indexByteF at hr
    cases args with
    | nil => exact .inl ⟨_, hr.symm⟩
    | cons s q =>
      cases s <;> try exact .inl ⟨_, hr.symm⟩
      rename_i l n
      cases q with
      | nil => exact .inl ⟨_, hr.symm⟩
      | cons c q =>
        cases q with
        | cons x y => exact .inl ⟨_, hr.symm⟩
        | nil =>
          cases c <;> try exact .inl ⟨_, hr.symm⟩
          rename_i k v
          cases v with
          | negSucc m => exact .inl ⟨_, hr.symm⟩
          | ofNat m =>
            simp only at hr
            cases hk : decide (k = .u8) && Nat.blt m 256 with
            | false => rw [hk] at hr; exact .inl ⟨_, hr.symm⟩
            | true =>
              rw [hk] at hr
              simp only [cond_true, forceI_eq] at hr
              rw [Bool.and_eq_true] at hk
              have hk1 : k = .u8 := of_decide_eq_true hk.1
              have hk2 : m < 256 := by simpa [Nat.blt_eq] using hk.2
              subst hk1
              simp only [VRels, VRel] at ha
              obtain ⟨y, s, rfl, rfl, y2, s2, rfl, rfl, rfl⟩ := ha
              subst hr
              refine .same (v' := .int .i64 (idxByte m l n 0)) hw (by simp only [VRel]) ?_
              have hn : Extern.findNext fn = none := by
                unfold Extern.findNext
                simp only [hname, ho, next_IndexByteString, next_none]
                rfl
              have he : Extern.find fn = some Extern.BytealgIndexByte.indexByte := by
                unfold Extern.find
                simp only [hname, gen_IndexByteString, typed_IndexByteString, row_IndexByteString]
                rfl
              rw [run_callFunc_extern hf (by rw [hname]; decide) hb hn he, Lib.run_indexByteString]
              simp only [Result.andThen]
              congr 3
              rw [idxByte_eq m hk2]
              have e : (bytesOf l n).data.toList = bytesL l n := by simp [bytesOf]
              rw [e]
              have e2 : (Int.ofNat m).toNat.toUInt8 = m.toUInt8 := rfl
              rw [e2]
              generalize Lib.indexByte (bytesL l n) m.toUInt8 = z
              by_cases hz : z = -1 <;> simp [hz]
  · obtain ⟨fn, hf, hb, ho, hor⟩ := externId_spec hid (by decide)
    have hname : fn.name = "internal/abi.NoEscape" := by simpa [externNames] using hor
    cases args with
    | nil => exact .inl ⟨_, hr.symm⟩
    | cons x q =>
      cases q with
      | cons y z => exact .inl ⟨_, hr.symm⟩
      | nil =>
        simp only [VRels] at ha
        obtain ⟨y, s, rfl, hx, rfl⟩ := ha
        subst hr
        refine .same (v' := y) hw hx ?_
        have hn : Extern.findNext fn = none := by
          unfold Extern.findNext
          simp only [hname, ho, next_NoEscape, next_none]
          rfl
        have he : Extern.find fn = some Extern.AbiNoEscape.same := by
          unfold Extern.find
          simp only [hname, gen_NoEscape, typed_NoEscape, row_NoEscape]
          rfl
        rw [run_callFunc_extern hf (by rw [hname]; decide) hb hn he]
        rfl
  · obtain ⟨fn, hf, hb, ho, hor⟩ := externId_spec hid (by decide)
    have hname : fn.name = "sync/atomic.LoadPointer" := by simpa [externNames] using hor
    unfold atomLoadP at hr
    split at hr
    · rename_i x
      cases x <;> simp only at hr <;> try exact .inl ⟨_, hr.symm⟩
      rename_i b o
      simp only [VRels, VRel] at ha
      obtain ⟨y, s, rfl, ⟨i, hi, rfl⟩, rfl⟩ := ha
      rcases cellAt_rel hw hi hr with h | ⟨v, v', h1, h2, h3⟩
      · exact .inl h
      · have hrun : ∀ p, v' = .pointer p → (callFunc g #[.pointer (some ⟨i.blk, o + i.sh, none⟩)]).run P w = .ok (.value v') w := fun p e => by
          rw [extern_row hf hb ho (by rw [hname]; exact next_LoadPointer) (by rw [hname]; exact gen_LoadPointer) (by rw [hname]; exact typed_LoadPointer) (by rw [hname]; exact row_LoadPointer) (by rw [hname]; decide)]
          subst e
          rw [loadT_one]
          simp [asAddr, Extern.Atomic.read, load, Sem.run, h3]
        cases v <;> simp only at h1 <;> try exact .inl ⟨_, h1.symm⟩
        · simp only [VRel] at h2
          obtain ⟨j, hj, rfl⟩ := h2
          subst h1
          exact .same hw (by simp only [VRel]; exact ⟨j, hj, rfl⟩) (hrun _ rfl)
        · simp only [VRel] at h2
          subst h2
          subst h1
          exact .same hw (by simp only [VRel]) (hrun _ rfl)
    · exact .inl ⟨_, hr.symm⟩
  · obtain ⟨fn, hf, hb, ho, hor⟩ := externId_spec hid (by decide)
    have hname : fn.name = "sync/atomic.StorePointer" := by simpa [externNames] using hor
    unfold atomStoreP at hr
    split at hr
    · rename_i x v
      cases x <;> simp only at hr <;> try exact .inl ⟨_, hr.symm⟩
      rename_i b o
      simp only [VRels, VRel] at ha
      obtain ⟨y, s, rfl, ⟨i, hi, rfl⟩, y2, s2, rfl, hv, rfl⟩ := ha
      rcases store1_rel (P := P) hv hw hi hr with h | ⟨st', w', h1, h2, h3, h4, h5⟩
      · exact .inl h
      · refine .inr ⟨_, undef, st', w', h1.symm, h2, by simp only [VRel]; exact ⟨[], rfl, VRels.nil⟩, h3, ?_⟩
        rw [extern_row hf hb ho (by rw [hname]; exact next_StorePointer) (by rw [hname]; exact gen_StorePointer) (by rw [hname]; exact typed_StorePointer) (by rw [hname]; exact row_StorePointer) (by rw [hname]; decide)]
        show (Sem.run P (Extern.Atomic.storeT #[_, _]) w).andThen _ = _
        rw [storeT_two]
        simp [asAddr, h5, Result.andThen, Extern.Atomic.none_, undef]
    · exact .inl ⟨_, hr.symm⟩
  · obtain ⟨fn, hf, hb, ho, hor⟩ := externId_spec hid (by decide)
    have hname : fn.name = "internal/race.Disable" := by simpa [externNames] using hor
    subst hr
    refine .same (v' := undef) hw (by simp only [VRel]; exact ⟨[], rfl, VRels.nil⟩) ?_
    rw [extern_row hf hb ho (by rw [hname]; exact next_Disable) (by rw [hname]; exact gen_Disable) (by rw [hname]; exact typed_Disable) (by rw [hname]; exact row_Disable) (by rw [hname]; decide)]
    rfl
  · obtain ⟨fn, hf, hb, ho, hor⟩ := externId_spec hid (by decide)
    have hname : fn.name = "internal/race.Enable" := by simpa [externNames] using hor
    subst hr
    refine .same (v' := undef) hw (by simp only [VRel]; exact ⟨[], rfl, VRels.nil⟩) ?_
    rw [extern_row hf hb ho (by rw [hname]; exact next_Enable) (by rw [hname]; exact gen_Enable) (by rw [hname]; exact typed_Enable) (by rw [hname]; exact row_Enable) (by rw [hname]; decide)]
    rfl
  · obtain ⟨fn, hf, hb, ho, hor⟩ := externId_spec hid (by decide)
    have hname : fn.name = "internal/race.Acquire" := by simpa [externNames] using hor
    unfold raceMark at hr
    split at hr
    · rename_i x r
      cases x <;> simp only at hr <;> try exact .inl ⟨_, hr.symm⟩
      simp only [VRels, VRel] at ha
      obtain ⟨y, s, rfl, ⟨i, hi, rfl⟩, _⟩ := ha
      subst hr
      refine .same (v' := undef) hw (by simp only [VRel]; exact ⟨[], rfl, VRels.nil⟩) ?_
      rw [extern_row hf hb ho (by rw [hname]; exact next_Acquire) (by rw [hname]; exact gen_Acquire) (by rw [hname]; exact typed_Acquire) (by rw [hname]; exact row_Acquire) (by rw [hname]; decide)]
      rfl
    · exact .inl ⟨_, hr.symm⟩
  · obtain ⟨fn, hf, hb, ho, hor⟩ := externId_spec hid (by decide)
    have hname : fn.name = "internal/race.ReleaseMerge" := by simpa [externNames] using hor
    unfold raceMark at hr
    split at hr
    · rename_i x r
      cases x <;> simp only at hr <;> try exact .inl ⟨_, hr.symm⟩
      simp only [VRels, VRel] at ha
      obtain ⟨y, s, rfl, ⟨i, hi, rfl⟩, _⟩ := ha
      subst hr
      refine .same (v' := undef) hw (by simp only [VRel]; exact ⟨[], rfl, VRels.nil⟩) ?_
      rw [extern_row hf hb ho (by rw [hname]; exact next_ReleaseMerge) (by rw [hname]; exact gen_ReleaseMerge) (by rw [hname]; exact typed_ReleaseMerge) (by rw [hname]; exact row_ReleaseMerge) (by rw [hname]; decide)]
      rfl
    · exact .inl ⟨_, hr.symm⟩
  · obtain ⟨fn, hf, hb, ho, hor⟩ := externId_spec hid (by decide)
    have hname : fn.name = "sync/atomic.AddInt32" := by simpa [externNames] using hor
    unfold atomAdd at hr
    split at hr
    · rename_i x y
      cases x <;> simp only at hr <;> try exact .inl ⟨_, hr.symm⟩
      rename_i b o
      cases y <;> simp only at hr <;> try exact .inl ⟨_, hr.symm⟩
      rename_i k' d
      simp only [VRels, VRel] at ha
      obtain ⟨y, s, rfl, ⟨i, hi, rfl⟩, y2, s2, rfl, rfl, rfl⟩ := ha
      rcases cellAt_rel hw hi hr with h | ⟨v, v', h1, h2, h3⟩
      · exact .inl h
      · cases v <;> simp only at h1 <;> try exact .inl ⟨_, h1.symm⟩
        rename_i k n
        simp only [VRel] at h2
        subst h2
        cases hk : decide (k = .i32) && decide (k' = .i32) with
        | false => rw [hk] at h1; exact .inl ⟨_, h1.symm⟩
        | true =>
          rw [hk] at h1
          rw [Bool.and_eq_true] at hk
          have e1 : k = .i32 := of_decide_eq_true hk.1
          have e2 : k' = .i32 := of_decide_eq_true hk.2
          subst e1; subst e2
          simp only [cond_true, forceI_eq] at h1
          rcases store1_rel (P := P) (v := .int .i32 (IntKind.i32.wrap (Int.add n d))) (v' := .int .i32 (IntKind.i32.wrap (Int.add n d))) (by simp only [VRel]) hw hi h1 with h | ⟨st', w', g1, g2, g3, g4, g5⟩
          · exact .inl h
          · refine .inr ⟨_, .int .i32 (IntKind.i32.wrap (Int.add n d)), st', w', g1.symm, g2, by simp only [VRel], g3, ?_⟩
            rw [extern_row hf hb ho (by rw [hname]; exact next_AddInt32) (by rw [hname]; exact gen_AddInt32) (by rw [hname]; exact typed_AddInt32) (by rw [hname]; exact row_AddInt32) (by rw [hname]; decide)]
            have hl : (load ⟨i.blk, o + i.sh, none⟩ .atomic).run P w = .ok (.int .i32 n) w := by simp [load, Sem.run, h3]
            show (Sem.run P (Extern.Atomic.update _ _ _ #[_, _]) w).andThen _ = _
            rw [update_two]
            have g5' := g5 .atomic
            simp only [Int.add_def] at g5'
            simp [asAddr, Extern.Atomic.read, hl, asInt, asIntOf, Op.intArith, g5', Result.andThen]
    · exact .inl ⟨_, hr.symm⟩
  · obtain ⟨fn, hf, hb, ho, hor⟩ := externId_spec hid (by decide)
    have hname : fn.name = "sync/atomic.CompareAndSwapInt32" := by simpa [externNames] using hor
    unfold atomCas at hr
    split at hr
    · rename_i x y z
      cases x <;> simp only at hr <;> try exact .inl ⟨_, hr.symm⟩
      rename_i b o
      cases y <;> simp only at hr <;> try exact .inl ⟨_, hr.symm⟩
      rename_i k' old
      cases z <;> simp only at hr <;> try exact .inl ⟨_, hr.symm⟩
      rename_i k3 z
      simp only [VRels, VRel] at ha
      obtain ⟨y, s, rfl, ⟨i, hi, rfl⟩, y2, s2, rfl, rfl, y3, s3, rfl, rfl, rfl⟩ := ha
      rcases cellAt_rel hw hi hr with h | ⟨v, v', h1, h2, h3⟩
      · exact .inl h
      · cases v <;> simp only at h1 <;> try exact .inl ⟨_, h1.symm⟩
        rename_i k n
        simp only [VRel] at h2
        subst h2
        cases hk : decide (k = .i32) && decide (k' = .i32) with
        | false => rw [hk] at h1; exact .inl ⟨_, h1.symm⟩
        | true =>
          rw [hk] at h1
          rw [Bool.and_eq_true] at hk
          have e1 : k = .i32 := of_decide_eq_true hk.1
          have e2 : k' = .i32 := of_decide_eq_true hk.2
          subst e1; subst e2
          simp only [cond_true] at h1
          cases hn : n == old with
          | false => rw [hn] at h1; exact .inl ⟨_, h1.symm⟩
          | true =>
            rw [hn] at h1
            simp only [cond_true] at h1
            rcases store1_rel (P := P) (v := .int k3 z) (v' := .int k3 z) (by simp only [VRel]) hw hi h1 with h | ⟨st', w', g1, g2, g3, g4, g5⟩
            · exact .inl h
            · refine .inr ⟨_, .bool true, st', w', g1.symm, g2, by simp only [VRel], g3, ?_⟩
              rw [extern_row hf hb ho (by rw [hname]; exact next_CasInt32) (by rw [hname]; exact gen_CasInt32) (by rw [hname]; exact typed_CasInt32) (by rw [hname]; exact row_CasInt32) (by rw [hname]; decide)]
              have hl : (load ⟨i.blk, o + i.sh, none⟩ .atomic).run P w = .ok (.int .i32 n) w := by simp [load, Sem.run, h3]
              have hsh : ∃ e c, w.shape? i.blk = some (e, c) := by
                cases hb2 : w.heap[i.blk]? with
                | none => simp [World.cell?, hb2] at h3
                | some O => cases O <;> simp [World.cell?, hb2] at h3 <;> exact ⟨_, _, by simp [World.shape?, hb2]; exact ⟨rfl, rfl⟩⟩
              obtain ⟨e, c, hsh⟩ := hsh
              have ht : (Extern.Atomic.touchesFrozen ⟨i.blk, o + i.sh, none⟩).run P w = .ok false w := by
                simp [Extern.Atomic.touchesFrozen, viewAt, shape, Sem.run, hsh, frozen, g4]
              have hn' : n = old := by simpa using hn
              subst hn'
              show (Sem.run P (Extern.Atomic.casT _ #[_, _, _]) w).andThen _ = _
              rw [casT_three]
              simp [asAddr, ht, Extern.Atomic.read, hl, g5, Result.andThen]
    · exact .inl ⟨_, hr.symm⟩
  · exact .inl ⟨_, hr.symm⟩
end
end Go.Proofs.YtbmbjaogcmokoaaGreatDoorX
