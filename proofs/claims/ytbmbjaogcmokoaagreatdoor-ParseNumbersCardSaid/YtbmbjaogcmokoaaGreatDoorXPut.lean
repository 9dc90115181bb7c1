/- Values that are put into slots; what is known less. -/
import Derived.Test.YtbmbjaogcmokoaaGreatDoorXRange
namespace Go.Proofs.YtbmbjaogcmokoaaGreatDoorX
open Go Go.RowKit
set_option linter.unusedVariables false

mutual
theorem eqCV_eq : ∀ (x y : CV), eqCV x y = true → x = y
  | .bool a, y, h => by cases y <;> simp [eqCV] at h; subst h; rfl
  | .int k a, y, h => by cases y <;> simp [eqCV] at h; obtain ⟨rfl, rfl⟩ := h; rfl
  | .float k a, y, h => by cases y <;> simp [eqCV] at h; obtain ⟨rfl, rfl⟩ := h; rfl
  | .str l n, y, h => by cases y <;> simp [eqCV] at h; obtain ⟨rfl, rfl⟩ := h; rfl
  | .sym i b, y, h => by cases y <;> simp [eqCV] at h; obtain ⟨rfl, rfl⟩ := h; rfl
  | .slen b, y, h => by cases y <;> simp [eqCV] at h; subst h; rfl
  | .smod r, y, h => by cases y <;> simp [eqCV] at h; subst h; rfl
  | .ptr b o, y, h => by cases y <;> simp [eqCV] at h; obtain ⟨rfl, rfl⟩ := h; rfl
  | .nilp, y, h => by cases y <;> simp [eqCV] at h; rfl
  | .slice b o l c q, y, h => by cases y <;> simp [eqCV] at h; obtain ⟨rfl, rfl, rfl, rfl, rfl⟩ := h; rfl
  | .nils, y, h => by cases y <;> simp [eqCV] at h; rfl
  | .map b, y, h => by cases y <;> simp [eqCV] at h; subst h; rfl
  | .nilm, y, h => by cases y <;> simp [eqCV] at h; rfl
  | .func f fi ca, y, h => by
    cases y <;> try (cases f <;> simp [eqCV] at h; done)
    rename_i g fj cb
    cases f <;> cases g <;> simp [eqCV] at h
    obtain ⟨rfl, h1, h2⟩ := h
    rw [eqCVs_eq _ _ h1, eqCVs_eq _ _ h2]
  | .nilf, y, h => by cases y <;> simp [eqCV] at h; rfl
  | .iface t v, y, h => by
    cases y <;> simp [eqCV] at h
    obtain ⟨rfl, h1⟩ := h
    rw [eqCV_eq _ _ h1]
  | .nili, y, h => by cases y <;> simp [eqCV] at h; rfl
  | .agg l, y, h => by
    cases y <;> simp [eqCV] at h
    rw [eqCVs_eq _ _ h]
  | .tup l, y, h => by
    cases y <;> simp [eqCV] at h
    rw [eqCVs_eq _ _ h]
  | .unk, y, h => by cases y <;> simp [eqCV] at h
theorem eqCVs_eq : ∀ (x y : List CV), eqCVs x y = true → x = y
  | [], y, h => by cases y <;> simp [eqCVs] at h; rfl
  | x :: r, y, h => by
    cases y <;> simp [eqCVs] at h
    rw [eqCV_eq _ _ h.1, eqCVs_eq _ _ h.2]
end


section
variable {P : Program} {cx : Cx} {call : Caller} {all : List Oper}
def GuardIs (cx : Cx) (all : List Oper) (g : Option (Nat × Bool)) (env : List CV) (loc : Loc) (b : Bool) : Prop := ∀ K : Bool → R, (guardF cx all g).f env loc K = K b
def PutIs (cx : Cx) (d : Option Nat) (v : CV) (env : List CV) (loc : Loc) (env1 : List CV) (loc1 : Loc) : Prop := ∀ (K : List CV → Loc → St → R) (st : St), (put cx d).f v env loc K st = K env1 loc1 st

theorem guard_is (g : Option (Nat × Bool)) (env : List CV) (loc : Loc) : (∃ b, GuardIs cx all g env loc b) ∨ ∃ n, ∀ K : Bool → R, (guardF cx all g).f env loc K = .err n := by
  unfold GuardIs guardF
  cases g with
  | none => exact .inl ⟨true, fun _ => rfl⟩
  | some jw =>
    obtain ⟨j, wt⟩ := jw
    simp only
    cases all[j]? with
    | none => exact .inl ⟨false, fun _ => rfl⟩
    | some o =>
      simp only
      cases o.dst with
      | none => exact .inl ⟨false, fun _ => rfl⟩
      | some d =>
        simp only
        cases (evTmpAt d (pos cx.vars d)).f env loc <;> first | exact .inr ⟨_, fun _ => rfl⟩ | exact .inl ⟨_, fun _ => rfl⟩
theorem put_is (d : Option Nat) (v : CV) (env : List CV) (loc : Loc) : (∃ env1 loc1, PutIs cx d v env loc env1 loc1) ∨ ∃ n, ∀ (K : List CV → Loc → St → R) (st : St), (put cx d).f v env loc K st = .err n := by
  unfold PutIs put
  cases d with
  | none => exact .inl ⟨_, _, fun _ _ => rfl⟩
  | some t =>
    simp only
    cases Nat.blt t cx.nt with
    | false => exact .inr ⟨_, fun _ _ => rfl⟩
    | true =>
      simp only [putAt]
      cases pos cx.vars t <;> exact .inl ⟨_, _, fun _ _ => rfl⟩
theorem put_look {d : Option Nat} {v : CV} {env env1 : List CV} {loc loc1 : Loc} (h : PutIs cx d v env loc env1 loc1) :
    (∀ t, d = some t → t < cx.nt) ∧ ∀ u, look cx env1 loc1 u = .unk ∨ look cx env1 loc1 u = if d = some u then v else look cx env loc u := by
  unfold PutIs put at h
  cases d with
  | none =>
    have h' := h (fun env loc st => .ok (.exit 0) env ⟨st.heap, st.next, []⟩) ⟨.nil, 0, []⟩
    have he : env = env1 := by simpa using h'
    have hl : ∀ u, loc.look u = loc1.look u := fun u => by
      have := h (fun _ l _ => .ok (.panic (l.look u)) [] ⟨.nil, 0, []⟩) ⟨.nil, 0, []⟩
      simpa using this
    subst he
    refine ⟨(fun t ht => by cases ht), fun u => .inr ?_⟩
    rw [if_neg (by simp)]
    unfold look
    split
    · rfl
    · exact (hl u).symm
  | some t =>
    simp only at h
    cases hb : Nat.blt t cx.nt with
    | false =>
      rw [hb] at h
      have := h (fun _ _ _ => .ok .normal [] ⟨.nil, 0, []⟩) ⟨.nil, 0, []⟩
      cases this
    | true =>
      rw [hb] at h
      simp only [putAt] at h
      refine ⟨(fun t' ht => by cases ht; simpa [Nat.blt_eq] using hb), fun u => ?_⟩
      cases hp : pos cx.vars t with
      | some k =>
        rw [hp] at h
        have he : setNth env v k = env1 := by
          have := h (fun e _ _ => .ok .normal e ⟨.nil, 0, []⟩) ⟨.nil, 0, []⟩
          simpa using this
        have hl : loc.look u = loc1.look u := by
          have := h (fun _ l _ => .ok (.panic (l.look u)) [] ⟨.nil, 0, []⟩) ⟨.nil, 0, []⟩
          simpa using this
        subst he
        unfold look
        cases hpu : pos cx.vars u with
        | none =>
          simp only
          have hne : t ≠ u := fun e => by subst e; rw [hp] at hpu; cases hpu
          rw [if_neg (by simpa using hne)]
          exact .inr hl.symm
        | some j =>
          simp only
          rw [nth_setNth]
          by_cases htu : t = u
          · subst htu
            rw [hp] at hpu; cases hpu
            by_cases hk : k < env.length
            · rw [if_pos ⟨rfl, hk⟩, if_pos rfl]; exact .inr rfl
            · rw [if_neg (by omega), nth_ge env k (by omega)]; exact .inl rfl
          · have hjk : j ≠ k := fun e => by subst e; exact htu (pos_inj hp hpu)
            rw [if_neg (by omega), if_neg (by simpa using htu)]; exact .inr rfl
      | none =>
        rw [hp] at h
        have he : env = env1 := by
          have := h (fun e _ _ => .ok .normal e ⟨.nil, 0, []⟩) ⟨.nil, 0, []⟩
          simpa using this
        have hl : (Loc.cons t v loc).look u = loc1.look u := by
          have := h (fun _ l _ => .ok (.panic (l.look u)) [] ⟨.nil, 0, []⟩) ⟨.nil, 0, []⟩
          simpa using this
        subst he
        unfold look
        cases hpu : pos cx.vars u with
        | some j =>
          simp only
          have hne : t ≠ u := fun e => by subst e; rw [hp] at hpu; cases hpu
          rw [if_neg (by simpa using hne)]
          exact .inr rfl
        | none =>
          simp only
          rw [← hl, loc_look_cons]
          by_cases htu : t = u
          · subst htu
            rw [if_pos rfl, show Nat.beq t t = true from Nat.beq_refl t]; exact .inr rfl
          · rw [if_neg (by simpa using htu)]
            have : Nat.beq t u = false := by
              cases hx : Nat.beq t u with
              | false => rfl
              | true => exact absurd (Nat.eq_of_beq_eq_true hx) htu
            rw [this]; exact .inr rfl

end

def LeV (x y : CV) : Prop := x = .unk ∨ x = y
theorem LeV.rel {sy : Sy} {ρ : Ren} {x y : CV} {v : Value} (h : LeV x y) (k : VRel sy ρ y v) : VRel sy ρ x v := by
  rcases h with rfl | rfl
  · simp [VRel]
  · exact k
theorem LeV.trans {x y z : CV} (h : LeV x y) (k : LeV y z) : LeV x z := by
  rcases h with rfl | rfl
  · exact .inl rfl
  · exact k

def maskL (T : Nat → Bool) : Loc → Loc
  | .nil => .nil
  | .cons t v r => if T t = true then .cons t v (maskL T r) else maskL T r
theorem nth_mask (T : Nat → Bool) : ∀ (vars : List Nat) (env : List CV) (t k : Nat), pos vars t = some k → nth (maskE T vars env) k = if T t = true then nth env k else .unk
  | [], env, t, k, h => by cases h
  | u :: vs, [], t, k, h => by
    unfold maskE
    rw [nth_ge [] k (by simp)]
    simp
  | u :: vs, v :: es, t, k, h => by
    unfold pos at h
    unfold maskE
    cases e : Nat.beq u t with
    | true =>
      rw [e] at h
      simp only [cond_true] at h
      cases h
      have : u = t := Nat.eq_of_beq_eq_true e
      subst this
      show (if T u = true then v else CV.unk) = _
      rfl
    | false =>
      rw [e] at h
      simp only [cond_false] at h
      cases hp : pos vs t with
      | none => rw [hp] at h; cases h
      | some j =>
        rw [hp] at h
        simp only [Option.some.injEq] at h
        subst h
        show nth (maskE T vs es) j = if T t = true then nth es j else .unk
        exact nth_mask T vs es t j hp
theorem loc_mask (T : Nat → Bool) (t : Nat) : ∀ (l : Loc), (maskL T l).look t = if T t = true then l.look t else .unk
  | .nil => by
    unfold maskL
    have : Loc.look .nil t = .unk := rfl
    rw [this]; simp
  | .cons u v r => by
    unfold maskL
    by_cases hu : T u = true
    · rw [if_pos hu, loc_look_cons, loc_look_cons, loc_mask T t r]
      cases e : Nat.beq u t with
      | true =>
        have : u = t := Nat.eq_of_beq_eq_true e
        subst this
        simp [hu]
      | false => simp only [cond_false]
    · rw [if_neg hu, loc_mask T t r, loc_look_cons]
      by_cases ht : T t = true
      · rw [if_pos ht, if_pos ht]
        cases e : Nat.beq u t with
        | true =>
          have : u = t := Nat.eq_of_beq_eq_true e
          subst this
          exact absurd ht hu
        | false => rfl
      · rw [if_neg ht, if_neg ht]
theorem look_mask {cx : Cx} (T : Nat → Bool) (env : List CV) (loc : Loc) (t : Nat) : look cx (maskE T cx.vars env) (maskL T loc) t = if T t = true then look cx env loc t else .unk := by
  unfold look
  cases hp : pos cx.vars t with
  | none => exact loc_mask T t loc
  | some k => exact nth_mask T cx.vars env t k hp

section
variable {sy : Sy} {G : Nat} {ρ : Ren} {cx : Cx} {env env1 env' : List CV} {loc loc1 : Loc} {a : Act}
theorem getD_set_tmp (l : Array Value) (d u : Nat) (v : Value) (h : d < l.size) : (l.setIfInBounds d v).getD u undef = if d = u then v else l.getD u undef := by
  by_cases e : d = u
  · subst e; simp [h]
  · rw [if_neg e]; simp [Array.getElem?_setIfInBounds_ne e]
theorem SR.put (h : SR sy G cx ρ env loc a) {v : CV} {v' : Value} (hv : VRel sy ρ v v') {d : Option Nat} (hp : PutIs cx d v env loc env1 loc1) : SR sy G cx ρ env1 loc1 (a.put d v') := by
  obtain ⟨h1, h2⟩ := put_look hp
  refine ⟨h.ng, by cases d <;> simp [Act.put] <;> exact h.size, fun u => ?_⟩
  rcases h2 u with k | k
  · rw [k]; simp [VRel]
  · rw [k]
    cases d with
    | none => exact h.slot u
    | some t =>
      have hlt : t < a.tmps.size := Nat.lt_of_lt_of_le (h1 t rfl) h.size
      simp only [Act.put]
      rw [getD_set_tmp _ _ _ _ hlt]
      by_cases e : t = u
      · subst e; rw [if_pos rfl, if_pos rfl]; exact hv
      · rw [if_neg (by simpa using e), if_neg e]; exact h.slot u
theorem SR.less (h : SR sy G cx ρ env loc a) (hl : ∀ t, LeV (look cx env' loc1 t) (look cx env loc t)) : SR sy G cx ρ env' loc1 a := ⟨h.ng, h.size, fun t => (hl t).rel (h.slot t)⟩
theorem less_loc (env : List CV) (loc : Loc) (t : Nat) : LeV (look cx env .nil t) (look cx env loc t) := by
  unfold look
  split
  · exact .inr rfl
  · exact .inl rfl
theorem less_nth {l m : List CV} (h : ∀ k, LeV (nth l k) (nth m k)) (t : Nat) : LeV (look cx l .nil t) (look cx m .nil t) := by
  unfold look
  split
  · exact h _
  · exact .inr rfl
theorem nth_nil (k : Nat) : nth [] k = .unk := rfl
theorem keptE_less : ∀ (l m : List CV), keptE l m = true → ∀ k, LeV (nth l k) (nth m k)
  | [], m, h, k => .inl rfl
  | x :: r, [], h, k => by simp [keptE] at h
  | x :: r, y :: s, h, k => by
    unfold keptE at h
    rw [Bool.and_eq_true] at h
    cases k with
    | zero =>
      show LeV x y
      obtain ⟨h1, _⟩ := h
      cases x <;> first | exact .inl rfl | exact .inr (eqCV_eq _ _ h1)
    | succ k => exact keptE_less r s h.2 k
theorem alikeE_less : ∀ (l m : List CV) (k : Nat), LeV (nth (alikeE l m) k) (nth l k) ∧ LeV (nth (alikeE l m) k) (nth m k)
  | [], m, k => ⟨.inr (by cases m <;> rfl), .inl (by cases m <;> rfl)⟩
  | x :: r, [], k => ⟨.inl rfl, .inl rfl⟩
  | x :: r, y :: s, k => by
    unfold alikeE
    cases k with
    | zero =>
      show LeV (bif eqCV x y then x else .unk) x ∧ LeV (bif eqCV x y then x else .unk) y
      cases h : eqCV x y with
      | false => exact ⟨.inl rfl, .inl rfl⟩
      | true => exact ⟨.inr rfl, .inr (eqCV_eq _ _ h)⟩
    | succ k => exact alikeE_less r s k
end
end Go.Proofs.YtbmbjaogcmokoaaGreatDoorX
