/- Library functions without a body. -/
import Derived.Test.YtonlahgagjejeaaGreatDoorXOps8
import Derived.Laws.Externs
import Derived.Lib.Bytealg
import Derived.KernelRfl
namespace Go.Proofs.YtonlahgagjejeaaGreatDoorX
open Go Go.RowKit
set_option linter.unusedVariables false

section
variable {sy : Nat → ByteArray} {G B : Nat} {w0 : World} {P : Program} {ρ ρ' : Ren} {cx : Cx} {env : List CV} {loc : Loc} {a : Act} {st st' : St} {w w' : World} {o : Oper} {call : Caller}

theorem externId_spec {g n : Nat} (h : externId P g = n) (hn : n ≠ 0) : ∃ fn, P.funcs[g]? = some fn ∧ fn.body.isNone = true ∧ fn.origin = "" ∧ (n = 1 ∧ fn.name = "internal/bytealg.IndexByteString") := by
  unfold externId at h
  cases hf : P.funcs[g]? with
  | none => rw [hf] at h; exact absurd h.symm hn
  | some fn =>
    rw [hf] at h
    simp only at h
    cases hb : fn.body with
    | some c => rw [hb] at h; exact absurd h.symm hn
    | none =>
      rw [hb] at h
      simp only at h
      cases ho : fn.origin == "" with
      | false => rw [ho] at h; exact absurd h.symm hn
      | true =>
        rw [ho] at h
        simp only [cond_true] at h
        cases h1 : fn.name == "internal/bytealg.IndexByteString" with
        | true =>
          rw [h1] at h
          exact ⟨fn, rfl, by rw [hb]; rfl, by simpa using ho, h.symm, by simpa using h1⟩
        | false => rw [h1] at h; exact absurd h.symm hn

theorem next_IndexByteString : Extern.allNextRows.lookup "internal/bytealg.IndexByteString" = none := by kernel_rfl
theorem next_none : Extern.allNextRows.lookup "" = none := by kernel_rfl
theorem gen_IndexByteString : Extern.allGenericRows.lookup "internal/bytealg.IndexByteString" = none := by kernel_rfl
theorem typed_IndexByteString : Extern.allTypedRows.lookup "internal/bytealg.IndexByteString" = none := by kernel_rfl
theorem row_IndexByteString : Extern.allRows.lookup "internal/bytealg.IndexByteString" = some Extern.BytealgIndexByte.indexByte := by kernel_rfl

theorem idxByte_eq (c : Nat) (hc : c < 256) : ∀ (l n i : Nat), idxByte c l n i = if Lib.indexByte (bytesL l n) c.toUInt8 = -1 then -1 else Lib.indexByte (bytesL l n) c.toUInt8 + i
  | 0, n, i => by
    have : idxByte c 0 n i = -1 := rfl
    rw [this]
    simp [bytesL, Lib.indexByte]
  | l + 1, n, i => by
    have e : idxByte c (l + 1) n i = bif Nat.beq (Nat.mod n 256) c then .ofNat i else idxByte c l (Nat.div n 256) (Nat.succ i) := rfl
    rw [e, bytesL_succ]
    unfold Lib.indexByte
    have hb : (UInt8.ofNat n == c.toUInt8) = Nat.beq (Nat.mod n 256) c := by
      apply Bool.eq_iff_iff.2
      rw [beq_iff_eq, Nat.beq_eq, ← UInt8.toNat_inj]
      simp [UInt8.toNat_ofNat']
      rw [Nat.mod_eq_of_lt hc]
      rfl
    rw [hb]
    cases h : Nat.beq (Nat.mod n 256) c with
    | true => simp
    | false =>
      simp only [cond_false, Bool.false_eq_true, if_false]
      rw [idxByte_eq c hc l (Nat.div n 256) (Nat.succ i)]
      have hge := Lib.indexByte_ge (bytesL l (n / 256)) c.toUInt8
      show (if Lib.indexByte (bytesL l (n / 256)) c.toUInt8 = -1 then _ else Lib.indexByte (bytesL l (n / 256)) c.toUInt8 + ((i + 1 : Nat) : Int)) = _
      generalize Lib.indexByte (bytesL l (n / 256)) c.toUInt8 = q at *
      by_cases hq : q = -1
      · simp [hq]
      · have hq' : (q == -1) = false := by simpa using hq
        rw [hq']
        simp only [Bool.false_eq_true, if_false, if_neg hq]
        rw [if_neg (by omega)]
        omega

/-- a library function without a body -/
theorem extern_ok {g : Nat} {args : List CV} {args' : List Value} {r : RV} (ha : VRels sy ρ args args') (hr : externF (externId P g) args st = r) :
    (∃ k, r = .err k) ∨ ∃ v v', r = .ok v st ∧ VRel sy ρ v v' ∧ (callFunc g args'.toArray).run P w = .ok (.value v') w := by
  generalize hid : externId P g = n at hr
  unfold externF at hr
  split at hr
  · obtain ⟨fn, hf, hb, ho, _, hname⟩ := externId_spec hid (by decide)
    unfold indexByteF at hr
    cases args with
    | nil => exact .inl ⟨_, hr.symm⟩
    | cons s q =>
      cases s <;> try exact .inl ⟨_, hr.symm⟩
      rename_i l n
      cases q with
      | nil => exact .inl ⟨_, hr.symm⟩
      | cons c q =>
        cases q with
        | cons x y => exact .inl ⟨_, hr.symm⟩
        | nil =>
          cases c <;> try exact .inl ⟨_, hr.symm⟩
          rename_i k v
          cases v with
          | negSucc m => exact .inl ⟨_, hr.symm⟩
          | ofNat m =>
            simp only at hr
            cases hk : decide (k = .u8) && Nat.blt m 256 with
            | false => rw [hk] at hr; exact .inl ⟨_, hr.symm⟩
            | true =>
              rw [hk] at hr
              simp only [cond_true, forceI_eq] at hr
              rw [Bool.and_eq_true] at hk
              have hk1 : k = .u8 := of_decide_eq_true hk.1
              have hk2 : m < 256 := by simpa [Nat.blt_eq] using hk.2
              subst hk1
              simp only [VRels, VRel] at ha
              obtain ⟨y, s, rfl, rfl, y2, s2, rfl, rfl, rfl⟩ := ha
              refine .inr ⟨_, .int .i64 (idxByte m l n 0), hr.symm, by simp only [VRel], ?_⟩
              have hn : Extern.findNext fn = none := by
                unfold Extern.findNext
                simp only [hname, ho, next_IndexByteString, next_none]
                rfl
              have he : Extern.find fn = some Extern.BytealgIndexByte.indexByte := by
                unfold Extern.find
                simp only [hname, gen_IndexByteString, typed_IndexByteString, row_IndexByteString]
                rfl
              rw [run_callFunc_extern hf (by rw [hname]; decide) hb hn he, Lib.run_indexByteString]
              simp only [Result.andThen]
              congr 3
              rw [idxByte_eq m hk2]
              have e : (bytesOf l n).data.toList = bytesL l n := by simp [bytesOf]
              rw [e]
              have e2 : (Int.ofNat m).toNat.toUInt8 = m.toUInt8 := rfl
              rw [e2]
              generalize Lib.indexByte (bytesL l n) m.toUInt8 = z
              by_cases hz : z = -1 <;> simp [hz]
  · exact .inl ⟨_, hr.symm⟩
end
end Go.Proofs.YtonlahgagjejeaaGreatDoorX
