/- Operations: what the executor says of one, the model does (6: slices of strings, len, append). -/
import Derived.Test.YtbmbjaogcmokoaaGreatDoorXOps5
namespace Go.Proofs.YtbmbjaogcmokoaaGreatDoorX
open Go Go.RowKit
set_option linter.unusedVariables false

section
variable {sy : Sy} {G : Nat} {B : Kp} {w0 : World} {P : Program} {ρ ρ' : Ren} {cx : Cx} {env : List CV} {loc : Loc} {a : Act} {st st' : St} {w w' : World} {o : Oper} {call : Caller}

theorem intAt_rel {v : CV} {v' : Value} (h : VRel sy ρ v v') {K : Nat → RV} {r : RV} (hr : intAt v K = r) : (∃ k, r = .err k) ∨ ∃ k m, v' = .int k (Int.ofNat m) ∧ K m = r := by
  unfold intAt at hr
  cases v <;> try exact .inl ⟨_, hr.symm⟩
  rename_i k n
  simp only [VRel] at h
  cases n with
  | negSucc m => exact .inl ⟨_, hr.symm⟩
  | ofNat m => exact .inr ⟨k, m, h, hr⟩

def OptIs (a : Act) (d m : Nat) : Option Operand → Prop
  | none => m = d
  | some y => ∃ k, a.eval y = .int k (Int.ofNat m)
theorem optInt_rel (hs : SR sy G cx ρ env loc a) (hw : WRel sy G B w0 ρ st w) (x : Option Operand) {d : Nat} {K : Nat → RV} {r : RV} (hr : (optInt cx x).f env loc d K = r) :
    (∃ k, r = .err k) ∨ ∃ m, K m = r ∧ OptIs a d m x := by
  cases x with
  | none => exact .inr ⟨d, hr, rfl⟩
  | some y =>
    rcases intAt_rel (evRel hs hw y) hr with h | ⟨k, m, h1, h2⟩
    · exact .inl h
    · exact .inr ⟨m, h2, k, h1⟩

theorem sliceBound_ok (k : IntKind) (m y : Nat) (code : BoundsCode) (h : m ≤ y) (w : World) : (Instr.sliceBound (.int k (Int.ofNat m)) y code).run P w = .ok m w := by
  unfold Instr.sliceBound
  have h1 : (0 : Int) ≤ Int.ofNat m := Int.natCast_nonneg m
  have h2 : Int.ofNat m ≤ (y : Int) := Int.ofNat_le.2 h
  simp only [Sem.run_bind, asIntOf, Sem.run_pure, Result.andThen]
  rw [if_pos ⟨h1, h2⟩]
  rfl

theorem bounds_ok (b : Bool) {len cap l h : Nat} {lo hi : Option Operand} (hh : OptIs a len h hi) (hl : OptIs a 0 l lo) (h1 : l ≤ h) (h2 : h ≤ cap) (w : World) :
    (Instr.sliceBounds b len cap (lo.map a.eval) (hi.map a.eval) none).run P w = .ok (l, h, cap) w := by
  have e1 : ∀ x code, hi = some x → (Instr.sliceBound (a.eval x) cap code).run P w = .ok h w := fun x code e => by
    subst e
    obtain ⟨k, e⟩ := hh
    rw [e]
    exact sliceBound_ok k h cap code h2 w
  have e2 : ∀ x code, lo = some x → (Instr.sliceBound (a.eval x) h code).run P w = .ok l w := fun x code e => by
    subst e
    obtain ⟨k, e⟩ := hl
    rw [e]
    exact sliceBound_ok k l h code h1 w
  unfold Instr.sliceBounds
  cases hi with
  | none =>
    simp only [OptIs] at hh
    subst hh
    cases lo with
    | none => simp only [OptIs] at hl; subst hl; simp
    | some x => simp [e2 x _ rfl]
  | some y =>
    cases lo with
    | none => simp only [OptIs] at hl; subst hl; simp [e1 y _ rfl]
    | some x => simp [e1 y _ rfl, e2 x _ rfl]

theorem sliceStr_ok {t : TypeId} {x : Operand} {lo hi : Option Operand} (ho : o.op = .slice t x lo hi none) (hs : SR sy G cx ρ env loc a) (hd : DRel sy ρ st.dfs a.defers) (hw : WRel sy G B w0 ρ st w) :
    OpRes sy G B w0 P ρ a o w ((oSlice P cx t (ev cx x) lo hi none).f call env loc st) := by
  have hx := evRel hs hw x
  unfold oSlice
  cases hu : P.underlying t with
  | none => exact trivial
  | some d =>
    simp only
    cases d <;> try exact trivial
    simp only
    generalize (ev cx x).f env loc = u at *
    cases u <;> try exact trivial
    rename_i l n
    simp only [VRel] at hx
    simp only [strOf]
    generalize hr : (optInt cx hi).f env loc l (fun h => (optInt cx lo).f env loc 0 fun q => sliceStr l n q h st) = r
    rcases optInt_rel hs hw hi hr with ⟨k, rfl⟩ | ⟨h, hr2, hh⟩
    · exact trivial
    · rcases optInt_rel hs hw lo hr2 with ⟨k, rfl⟩ | ⟨q, hr3, hl⟩
      · exact trivial
      · subst hr3
        unfold sliceStr
        cases hc : (Nat.ble q h && Nat.ble h l) with
        | false => exact trivial
        | true =>
          simp only [Bool.and_eq_true, Nat.ble_eq] at hc
          simp only [cond_true, strV, forceN_eq]
          refine pure_val (v' := .string ((bytesOf l n).extract q h)) ?_ hw hd (by simp only [VRel]; rw [bytesOf_extract hc.1 hc.2])
          have hb := bounds_ok (P := P) (a := a) false (len := l) (cap := l) (l := q) (h := h) hh hl hc.1 hc.2 w
          simp [execOp, ho, Instr.sliceAt, Instr.slice, run_under hu, hx, bytesOf_size, hb]

theorem builtin_call {c : Call} {b : Builtin} (ho : o.op = .call c) (hc : c.callee = .builtin b) {s : Sem Next} (h : ∀ consts, builtin b c.argTypes o.type consts (c.args.map a.eval) = s) :
    (execOp a.eval o).run P w = s.run P w := by
  simp only [execOp, ho, resolve, hc, Sem.run_bind, Sem.run_pure, Result.andThen, invoke, h]

theorem len_ok {c : Call} {x : Operand} {t : TypeId} (ho : o.op = .call c) (hc : c.callee = .builtin .len) (ha : c.args.toList = [x]) (ht : c.argTypes.toList = [t])
    (hs : SR sy G cx ρ env loc a) (hd : DRel sy ρ st.dfs a.defers) (hw : WRel sy G B w0 ρ st w) :
    OpRes sy G B w0 P ρ a o w ((oBuiltin P cx .len [x] [t]).f call env loc st) := by
  have hx := evRel hs hw x
  have ha' : c.args = #[x] := Array.toList_inj.1 (by simpa using ha)
  have ht' : c.argTypes = #[t] := Array.toList_inj.1 (by simpa using ht)
  have hrun : ∀ s : Sem Value, Builtin.len_ #[t] o.type #[a.eval x] = s → (execOp a.eval o).run P w = (s.run P w).andThen fun v w => .ok (.value v) w := fun s h => by
    rw [builtin_call (s := do pure (.value (← s))) ho hc (fun _ => by rw [ha', ht']; simp only [builtin]; rw [← h]; simp)]
    simp
  unfold oBuiltin
  simp only
  cases hu : P.underlying t with
  | none => exact trivial
  | some d =>
    simp only
    cases d <;> try exact trivial
    · simp only
      generalize (ev cx x).f env loc = u at *
      cases u <;> try exact trivial
      rotate_left
      · rename_i i b
        simp only [VRel] at hx
        obtain ⟨hx, hb⟩ := hx
        refine pure_val (v' := .int .i64 (Int.ofNat (sy.str i).size)) ?_ hw hd (by simp only [VRel]; exact ⟨_, rfl, hb⟩)
        rw [hrun _ rfl, hx]
        simp [Builtin.len_, run_under hu, goInt]
      rename_i l n
      simp only [VRel] at hx
      refine pure_val (v' := .int .i64 (Int.ofNat l)) ?_ hw hd (by simp only [VRel])
      rw [hrun _ rfl, hx]
      simp [Builtin.len_, run_under hu, goInt, bytesOf_size]
    · simp only
      generalize (ev cx x).f env loc = u at *
      cases u <;> try exact trivial
      · rename_i b ofs l cp q
        simp only [VRel] at hx
        obtain ⟨i, hi, e⟩ := hx
        refine pure_val (v' := .int .i64 (Int.ofNat l)) ?_ hw hd (by simp only [VRel])
        rw [hrun _ rfl, e]
        simp [Builtin.len_, run_under hu, goInt]
      · simp only [VRel] at hx
        refine pure_val (v' := .int .i64 (Int.ofNat 0)) ?_ hw hd (by simp only [VRel])
        rw [hrun _ rfl, hx]
        simp [Builtin.len_, run_under hu, goInt]
    · rename_i n e
      refine pure_val (v' := .int .i64 (Int.ofNat n)) ?_ hw hd (by simp only [VRel])
      rw [hrun _ rfl]
      simp [Builtin.len_, run_under hu, goInt]
    · rename_i kt et
      simp only
      unfold lenMap
      generalize (ev cx x).f env loc = u at *
      cases u <;> try exact trivial
      · rename_i b
        simp only
        cases hg : st.heap.get b with
        | none => exact trivial
        | some ob =>
          simp only
          cases ob <;> try exact trivial
          rename_i es clock
          obtain ⟨i, es', p1, p2, p3, p4⟩ := hw.obj b _ hg
          simp only [VRel] at hx
          obtain ⟨i', q1, q2⟩ := hx
          rw [p1] at q1; cases q1
          have hlen : ∀ {l : List Ent} {l' : List MapEntry}, EntRel sy ρ l l' → l'.length = l.length := by
            intro l
            induction l with
            | nil => intro l' h; simp only [EntRel] at h; subst h; rfl
            | cons y r ih =>
              intro l' h
              simp only [EntRel] at h
              obtain ⟨z, s, rfl, _, _, _, h4⟩ := h
              simp [ih h4]
          have hrec : ∀ (l : List Ent) (n : Nat), (List.rec (motive := fun _ => Nat → RV) (fun n => .ok (.int .i64 (.ofNat n)) st) (fun _ _ ih n => forceN ih (Nat.succ n)) l : Nat → RV) n = .ok (.int .i64 (.ofNat (n + l.length))) st := by
            intro l
            induction l with
            | nil => intro n; rfl
            | cons y r ih =>
              intro n
              have : (List.rec (motive := fun _ => Nat → RV) (fun n => .ok (.int .i64 (.ofNat n)) st) (fun _ _ ih n => forceN ih (Nat.succ n)) (y :: r) : Nat → RV) n = forceN (List.rec (motive := fun _ => Nat → RV) (fun n => .ok (.int .i64 (.ofNat n)) st) (fun _ _ ih n => forceN ih (Nat.succ n)) r) (Nat.succ n) := rfl
              rw [this, forceN_eq, ih, List.length_cons]
              congr 3
              omega
          simp only [hrec es 0, Nat.zero_add]
          refine pure_val (v' := .int .i64 (Int.ofNat es.length)) ?_ hw hd (by simp only [VRel])
          have hsz : es'.size = es.length := by rw [← Array.length_toList, hlen p4]
          rw [hrun _ rfl, q2]
          simp [Builtin.len_, run_under hu, goInt, run_getObj p3 (by simp), hsz]
      · simp only [VRel] at hx
        refine pure_val (v' := .int .i64 (Int.ofNat 0)) ?_ hw hd (by simp only [VRel])
        rw [hrun _ rfl, hx]
        simp [Builtin.len_, run_under hu, goInt]
end
end Go.Proofs.YtbmbjaogcmokoaaGreatDoorX
