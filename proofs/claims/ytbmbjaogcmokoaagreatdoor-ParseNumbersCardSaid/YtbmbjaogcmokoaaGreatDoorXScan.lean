/- Loops that look through a map: whatever the order, the end is the same. -/
import Derived.Test.YtbmbjaogcmokoaaGreatDoorXRun0
namespace Go.Proofs.YtbmbjaogcmokoaaGreatDoorX
open Go Go.RowKit
set_option linter.unusedVariables false

section
variable {sy : Sy} {G : Nat} {B B' : Kp} {w0 : World} {P : Program} {ρ ρ' : Ren} {cx : Cx} {env env1 env2 env' : List CV} {loc : Loc} {a : Act} {st st' : St} {w w' : World} {o : Oper} {call : Caller} {e : Ex} {cur : Cur}

/-! ## A round's code leaves the state -/
theorem quietOp_guard (h : quietOp P o = true) : o.guard = none := by
  unfold quietOp at h
  split at h
  · cases h
  · assumption
theorem quietOp_reads (h : quietOp P o = true) (hne : ∀ x, o.op ≠ .entry x) : reads P o.op = true := by
  unfold quietOp at h
  split at h
  · cases h
  · split at h
    · rename_i x hx; exact absurd hx (hne x)
    · exact h

/-- what is known where the round is run: the entry that the iterator is at -/
def CurOk (sy : Sy) (G : Nat) (B' : Kp) (w0 : World) (P : Program) (ρ0 : Ren) (st : St) (cur : Cur) : Prop := ∀ b ent, cur = some (b, ent) → ∃ i, ρ0 b = some i ∧ i.sh = 0 ∧
  ∀ ρ w, ρ0.le ρ → WRel sy G B' w0 ρ st w → ∃ ent', VRel sy ρ ent ent' ∧ (Instr.entry (.pointer (some ⟨i.blk, 0, none⟩))).run P w = .ok ent' w
theorem CurOk.mono {ρ0 : Ren} (h : CurOk sy G B w0 P ρ0 st cur) (hle : ρ0.le ρ) : CurOk sy G B w0 P ρ st cur := fun b ent e => by
  obtain ⟨i, h1, h2, h3⟩ := h b ent e
  exact ⟨i, hle _ _ h1, h2, fun ρ' w hl => h3 ρ' w (Ren.le_trans hle hl)⟩

/-- how a round's run ends: in the same state -/
def PostQ (sy : Sy) (G : Nat) (B : Kp) (w0 : World) (cx : Cx) (ρ : Ren) (st : St) (e : Ex) (env : List CV) : Exit → Act → World → Prop := PostC sy G B w0 cx ρ e env st

theorem opsQ_ok {ops : Array Oper} {Q : Exit → Act → World → Prop} (hcall : CallerSound sy G B w0 P call) : ∀ (l : List Oper) (env : List CV) (loc : Loc) (e : Ex) (env2 : List CV) (st2 : St) (ρ : Ren) (a : Act) (w : World),
    (opsQ P cx l).f cur call env loc st = .ok e env2 st2 → l.all (quietOp P) = true → CurOk sy G B w0 P ρ st cur → SR sy G cx ρ env loc a → DRel sy ρ st.dfs a.defers → WRel sy G B w0 ρ st w →
    (∀ e' a' w', PostC sy G B w0 cx ρ e env2 st e' a' w' → Q e' a' w') → st2 = st ∧ wpList P ops Q l a w
  | [], env, loc, e, env2, st2, ρ, a, w, hr, _, hc, hs, hd, hw, hQ => by
    have hr' : R.ok .normal env st = .ok e env2 st2 := hr
    cases hr'
    exact ⟨rfl, hQ _ _ _ ⟨ρ, Ren.le_refl _, rfl, hs.drop, hd, hw⟩⟩
  | o :: r, env, loc, e, env2, st2, ρ, a, w, hr, hq, hc, hs, hd, hw, hQ => by
    rw [List.all_cons, Bool.and_eq_true] at hq
    have hg := quietOp_guard hq.1
    -- behind the operation
    have next : ∀ {v : CV}, ((put cx o.dst).f v env loc (fun env loc st => (opsQ P cx r).f cur call env loc st) st = .ok e env2 st2) →
        (∀ next Q, (∀ ρ' v' w' ds', ρ.le ρ' → VRel sy ρ' v v' → WRel sy G B w0 ρ' st w' → DRel sy ρ' st.dfs ds' → next (({ a with defers := ds' } : Act).put o.dst v') w') → o.wp P a w next Q) →
        st2 = st ∧ wpList P ops Q (o :: r) a w := by
      intro v hput hop
      rcases put_is (cx := cx) o.dst v env loc with ⟨env1, loc1, hp⟩ | ⟨n, hn⟩
      · rw [hp] at hput
        have fin : ∀ ρ' v' w' ds', ρ.le ρ' → VRel sy ρ' v v' → WRel sy G B w0 ρ' st w' → DRel sy ρ' st.dfs ds' → st2 = st ∧ wpList P ops Q r (({ a with defers := ds' } : Act).put o.dst v') w' := fun ρ' v' w' ds' hle hv hw' hd' => by
          refine opsQ_ok hcall r env1 loc1 e env2 st2 ρ' _ w' hput hq.2 (hc.mono hle) (((hs.mono hle).dfs ds').put hv hp) ?_ hw' fun e' a' w' hp => hQ _ _ _ (hp.mono hle)
          have : (({ a with defers := ds' } : Act).put o.dst v').defers = ds' := by cases o.dst <;> rfl
          rw [this]; exact hd'
        have hst : st2 = st := by
          -- the state does not hang on the model
          have keep : ∀ (l : List Oper) (env : List CV) (loc : Loc) (st2 : St), l.all (quietOp P) = true → (opsQ P cx l).f cur call env loc st = .ok e env2 st2 → st2 = st := by
            intro l
            induction l with
            | nil => intro env loc st2 _ h; have h' : R.ok .normal env st = .ok e env2 st2 := h; cases h'; rfl
            | cons o r ih =>
              intro env loc st2 hq h
              rw [List.all_cons, Bool.and_eq_true] at hq
              unfold opsQ at h
              by_cases hx : ∃ x, o.op = .entry x
              · obtain ⟨x, hx⟩ := hx
                rw [hx] at h
                simp only at h
                split at h
                · rename_i b ent
                  split at h
                  · rename_i c q _
                    cases hb : Nat.beq c b && Nat.beq q 0 with
                    | false => rw [hb] at h; cases h
                    | true =>
                      rw [hb] at h
                      simp only [cond_true] at h
                      rcases put_is (cx := cx) o.dst ent env loc with ⟨env1, loc1, hp⟩ | ⟨n, hn⟩
                      · rw [hp] at h; exact ih _ _ _ hq.2 h
                      · rw [hn] at h; cases h
                  · cases h
                · cases h
              · have hne : ∀ x, o.op ≠ .entry x := fun x h => hx ⟨x, h⟩
                have hrd := quietOp_reads hq.1 hne
                have h' : (match (opF P cx o.op).f call env loc st with
                  | .ok v st => (put cx o.dst).f v env loc (fun env loc st => (opsQ P cx r).f cur call env loc st) st
                  | .pan _ _ => .err 303
                  | .err n => .err n : R) = .ok e env2 st2 := by
                  generalize o.op = p at h hne
                  cases p <;> first | exact absurd rfl (hne _) | exact h
                cases hop : (opF P cx o.op).f call env loc st with
                | err n => rw [hop] at h'; cases h'
                | pan v s => rw [hop] at h'; cases h'
                | ok v s =>
                  rw [hop] at h'
                  have := reads_keep hrd hop
                  subst this
                  simp only at h'
                  rcases put_is (cx := cx) o.dst v env loc with ⟨env1, loc1, hp⟩ | ⟨n, hn⟩
                  · rw [hp] at h'; exact ih _ _ _ hq.2 h'
                  · rw [hn] at h'; cases h'
          exact keep r env1 loc1 st2 hq.2 hput
        refine ⟨hst, ?_⟩
        unfold wpList
        rw [if_pos (by simp [Region.wanted, hg])]
        exact .inl (hop _ _ fun ρ' v' w' ds' hle hv hw' hd' => (fin ρ' v' w' ds' hle hv hw' hd').2)
      · rw [hn] at hput; cases hput
    unfold opsQ at hr
    by_cases hx : ∃ x, o.op = .entry x
    · obtain ⟨x, hx⟩ := hx
      rw [hx] at hr
      simp only at hr
      split at hr
      · rename_i b ent
        have hxr := evRel hs hw x
        split at hr
        · rename_i c q hev
          cases hb : Nat.beq c b && Nat.beq q 0 with
          | false => rw [hb] at hr; cases hr
          | true =>
            rw [hb] at hr
            simp only [cond_true] at hr
            rw [Bool.and_eq_true] at hb
            have e1 : c = b := Nat.eq_of_beq_eq_true hb.1
            have e2 : q = 0 := Nat.eq_of_beq_eq_true hb.2
            subst e1; subst e2
            rw [hev] at hxr
            simp only [VRel] at hxr
            obtain ⟨i, hi, he⟩ := hxr
            obtain ⟨i', k1, k2, k3⟩ := hc c ent rfl
            rw [hi] at k1; cases k1
            obtain ⟨ent', hv, hrun⟩ := k3 ρ w (Ren.le_refl _) hw
            refine next hr fun nx Q' h => ?_
            unfold Oper.wp
            have : (execOp a.eval o).run P w = .ok (.value ent') w := by
              rw [k2] at he
              simp [execOp, hx, he, hrun]
            rw [this]
            exact h ρ ent' w a.defers (Ren.le_refl _) hv hw hd
        · cases hr
      · cases hr
    · have hne : ∀ x, o.op ≠ .entry x := fun x h => hx ⟨x, h⟩
      have hrd := quietOp_reads hq.1 hne
      have h' : (match (opF P cx o.op).f call env loc st with
        | .ok v st => (put cx o.dst).f v env loc (fun env loc st => (opsQ P cx r).f cur call env loc st) st
        | .pan _ _ => .err 303
        | .err n => .err n : R) = .ok e env2 st2 := by
        generalize o.op = p at hr hne
        cases p <;> first | exact absurd rfl (hne _) | exact hr
      have hop := op_ok (o := o) hcall hs hd hw
      cases hx : (opF P cx o.op).f call env loc st with
      | err n => rw [hx] at h'; cases h'
      | pan v s => rw [hx] at h'; cases h'
      | ok v s =>
        rw [hx] at h' hop
        have := reads_keep hrd hx
        subst this
        simp only at h'
        exact next h' hop

theorem denQ_ok (hcall : CallerSound sy G B w0 P call) : ∀ (c : Code) (env : List CV) (e : Ex) (env2 : List CV) (st2 : St) (ρ : Ren) (a : Act) (w : World), quietCode P c = true → (denQ P cx c).f cur call env st = .ok e env2 st2 →
    CurOk sy G B w0 P ρ st cur → SR sy G cx ρ env .nil a → DRel sy ρ st.dfs a.defers → WRel sy G B w0 ρ st w → st2 = st ∧ c.wp P (PostC sy G B w0 cx ρ e env2 st) a w := by
  intro c
  induction c with
  | skip =>
    intro env e env2 st2 ρ a w _ hr hc hs hd hw
    have hr' : R.ok .normal env st = .ok e env2 st2 := hr
    cases hr'
    exact ⟨rfl, wp_skip ⟨ρ, Ren.le_refl _, rfl, hs, hd, hw⟩⟩
  | label l =>
    intro env e env2 st2 ρ a w _ hr hc hs hd hw
    have hr' : R.ok .normal env st = .ok e env2 st2 := hr
    cases hr'
    exact ⟨rfl, wp_label ⟨ρ, Ren.le_refl _, rfl, hs, hd, hw⟩⟩
  | region id ops draw =>
    intro env e env2 st2 ρ a w hq hr hc hs hd hw
    simp only [quietCode, Bool.and_eq_true, Bool.not_eq_true'] at hq
    obtain ⟨rfl, hq⟩ := hq
    have h := opsQ_ok (ops := ops) hcall ops.toList env .nil e env2 st2 ρ a w hr hq hc hs hd hw fun _ _ _ h => h
    exact ⟨h.1, wp_region_list h.2⟩
  | seq x y ihx ihy =>
    intro env e env2 st2 ρ a w hq hr hc hs hd hw
    simp only [quietCode, Bool.and_eq_true] at hq
    have hr' : (match (denQ P cx x).f cur call env st with
      | .ok e env st => match e with
        | .normal => (denQ P cx y).f cur call env st
        | e => .ok e env st
      | .err n => .err n : R) = .ok e env2 st2 := hr
    cases hf : (denQ P cx x).f cur call env st with
    | err k => rw [hf] at hr'; cases hr'
    | ok e1 env1 st1 =>
      rw [hf] at hr'
      obtain ⟨hk, hwp⟩ := ihx env e1 env1 st1 ρ a w hq.1 hf hc hs hd hw
      subst hk
      cases e1 with
      | normal =>
        simp only at hr'
        have keep : st2 = st1 := by
          obtain ⟨e', a', w', hp, _⟩ := hwp default [] []
          obtain ⟨ρ1, hle, hex, hs1, hd1, hw1⟩ := hp
          exact (ihy env1 e env2 st2 ρ1 a' w' hq.2 hr' (hc.mono hle) hs1 hd1 hw1).1
        refine ⟨keep, wp_seq (Code.wp_mono (fun e' a' w' hp => ?_) hwp)⟩
        obtain ⟨ρ1, hle, hex, hs1, hd1, hw1⟩ := hp
        simp only [ExRel] at hex
        subst hex
        exact Code.wp_mono (fun _ _ _ h => h.mono hle) (ihy env1 e env2 st2 ρ1 a' w' hq.2 hr' (hc.mono hle) hs1 hd1 hw1).2
      | exit id =>
        simp only at hr'; cases hr'
        refine ⟨rfl, wp_seq (Code.wp_mono (fun e' a' w' hp => ?_) hwp)⟩
        obtain ⟨ρ1, hle, hex, hs1, hd1, hw1⟩ := hp
        simp only [ExRel] at hex; subst hex; exact ⟨ρ1, hle, rfl, hs1, hd1, hw1⟩
      | ret =>
        simp only at hr'; cases hr'
        refine ⟨rfl, wp_seq (Code.wp_mono (fun e' a' w' hp => ?_) hwp)⟩
        obtain ⟨ρ1, hle, hex, hs1, hd1, hw1⟩ := hp
        simp only [ExRel] at hex; subst hex; exact ⟨ρ1, hle, rfl, hs1, hd1, hw1⟩
      | panic v =>
        simp only at hr'; cases hr'
        refine ⟨rfl, wp_seq (Code.wp_mono (fun e' a' w' hp => ?_) hwp)⟩
        obtain ⟨ρ1, hle, hex, hs1, hd1, hw1⟩ := hp
        obtain ⟨v', rfl, hv⟩ := hex; exact ⟨ρ1, hle, ⟨v', rfl, hv⟩, hs1, hd1, hw1⟩
  | cond x y z ihy ihz =>
    intro env e env2 st2 ρ a w hq hr hc hs hd hw
    simp only [quietCode, Bool.and_eq_true] at hq
    have hr' : (match (ev cx x).f env .nil with
      | .bool t => match t with
        | true => (denQ P cx y).f cur call env st
        | false => (denQ P cx z).f cur call env st
      | _ => .err 305 : R) = .ok e env2 st2 := hr
    cases hv : (ev cx x).f env .nil <;> rw [hv] at hr' <;> try (cases hr'; done)
    rename_i t
    have he : a.eval x = .bool t := by
      have := evRel hs hw x
      rw [hv] at this
      simpa [VRel] using this
    cases t with
    | true => exact (ihy env e env2 st2 ρ a w hq.1 hr' hc hs hd hw).imp id (wp_cond_true he)
    | false => exact (ihz env e env2 st2 ρ a w hq.2 hr' hc hs hd hw).imp id (wp_cond_false he)
  | block id x ih =>
    intro env e env2 st2 ρ a w hq hr hc hs hd hw
    simp only [quietCode] at hq
    have hr' : (match (denQ P cx x).f cur call env st with
      | .ok e env st => match e with
        | .exit j => bif Nat.beq j id then .ok .normal env st else .ok (.exit j) env st
        | e => .ok e env st
      | .err n => .err n : R) = .ok e env2 st2 := hr
    cases hf : (denQ P cx x).f cur call env st with
    | err k => rw [hf] at hr'; cases hr'
    | ok e1 env1 st1 =>
      rw [hf] at hr'
      obtain ⟨hk, hwp⟩ := ih env e1 env1 st1 ρ a w hq hf hc hs hd hw
      subst hk
      have hst : st2 = st1 := by
        cases e1 <;> simp only at hr'
        · cases hr'; rfl
        · rename_i j
          cases hj : Nat.beq j id <;> rw [hj] at hr' <;> cases hr' <;> rfl
        · cases hr'; rfl
        · cases hr'; rfl
      refine ⟨hst, wp_block (Code.wp_mono (fun e' a' w' hp => ?_) hwp)⟩
      obtain ⟨ρ1, hle, hex, hs1, hd1, hw1⟩ := hp
      cases e1 with
      | normal => simp only at hr'; cases hr'; simp only [ExRel] at hex; subst hex; exact ⟨ρ1, hle, rfl, hs1, hd1, hw1⟩
      | exit j =>
        simp only [ExRel] at hex
        subst hex
        simp only at hr'
        cases hj : Nat.beq j id with
        | true =>
          rw [hj] at hr'
          simp only [cond_true] at hr'
          cases hr'
          have : j = id := Nat.eq_of_beq_eq_true hj
          simp only [Exit.inBlock, this, if_true]
          exact ⟨ρ1, hle, rfl, hs1, hd1, hw1⟩
        | false =>
          rw [hj] at hr'
          simp only [cond_false] at hr'
          cases hr'
          have : j ≠ id := fun h => by subst h; rw [Nat.beq_refl] at hj; cases hj
          simp only [Exit.inBlock, if_neg this]
          exact ⟨ρ1, hle, rfl, hs1, hd1, hw1⟩
      | ret => simp only at hr'; cases hr'; simp only [ExRel] at hex; subst hex; exact ⟨ρ1, hle, rfl, hs1, hd1, hw1⟩
      | panic v => simp only at hr'; cases hr'; obtain ⟨v', rfl, hv⟩ := hex; exact ⟨ρ1, hle, ⟨v', rfl, hv⟩, hs1, hd1, hw1⟩
  | loop x ih =>
    intro env e env2 st2 ρ a w hq
    simp [quietCode] at hq
  | rangeFunc f ps x y _ _ =>
    intro env e env2 st2 ρ a w hq
    simp [quietCode] at hq
  | exit id =>
    intro env e env2 st2 ρ a w _ hr hc hs hd hw
    have hr' : R.ok (.exit id) env st = .ok e env2 st2 := hr
    cases hr'
    exact ⟨rfl, wp_exit ⟨ρ, Ren.le_refl _, rfl, hs, hd, hw⟩⟩
  | scope x ih =>
    intro env e env2 st2 ρ a w hq hr hc hs hd hw
    simp only [quietCode] at hq
    obtain ⟨hk, hwp⟩ := ih env e env2 st2 ρ a w hq hr hc hs hd hw
    refine ⟨hk, wp_scope_straight (Code.wp_mono (fun e' a' w' hp => ?_) hwp)⟩
    have hp' := hp
    obtain ⟨ρ1, hle, hex, _⟩ := hp
    cases e <;> simp only [ExRel] at hex
    case panic => obtain ⟨_, rfl, _⟩ := hex; exact hp'
    all_goals subst hex; exact hp'
  | goto l =>
    intro env e env2 st2 ρ a w hq
    simp [quietCode] at hq
  | ret =>
    intro env e env2 st2 ρ a w _ hr hc hs hd hw
    have hr' : R.ok .ret env st = .ok e env2 st2 := hr
    cases hr'
    exact ⟨rfl, wp_ret ⟨ρ, Ren.le_refl _, rfl, hs, hd, hw⟩⟩
  | refuse s =>
    intro env e env2 st2 ρ a w hq
    simp [quietCode] at hq
end
end Go.Proofs.YtbmbjaogcmokoaaGreatDoorX
