/- Loops that look through a map (2): the loop. Code, whole: what the executor says, the model does. Deferred functions: what the executor says, the model does. Functions: what the executor says, the model does. Runs where some functions' answers are known. Regions that draw their order (1): congruence. -/
import Derived.Test.YtbmbjaogcmokoaaGreatDoorX5
import Derived.Recover
namespace Go.Proofs.YtbmbjaogcmokoaaGreatDoorX
open Go Go.RowKit
set_option linter.unusedVariables false

section
variable {sy : Sy} {G : Nat} {B B' : Kp} {w0 : World} {P : Program} {ρ ρ' : Ren} {cx : Cx} {env env1 env2 env' : List CV} {loc : Loc} {a : Act} {st st' : St} {w w' : World} {o : Oper} {call : Caller} {e : Ex} {cur : Cur}

theorem Kept.sub {B B' : Kp} {w w' : World} (h : ∀ k, B.blk k → B'.blk k) (k : Kept B' w w') : Kept B w w' := ⟨k.os, k.tape, k.output, k.size, fun j hj => k.block j (h j hj)⟩
/-! ## Stamps that rise -/
theorem rising_tail : ∀ {x : Ent} {r : List Ent}, rising (x :: r) = true → rising r = true
  | x, [], _ => rfl
  | x, f :: r, h => by
    unfold rising at h
    rw [Bool.and_eq_true] at h
    exact h.2
theorem rising_lt : ∀ {x : Ent} {r : List Ent}, rising (x :: r) = true → ∀ y ∈ r, x.born < y.born
  | x, [], _, y, hy => by simp at hy
  | x, f :: r, h, y, hy => by
    have h' := h
    unfold rising at h
    rw [Bool.and_eq_true] at h
    have hx : x.born < f.born := by simpa [Nat.blt_eq] using h.1
    rw [List.mem_cons] at hy
    rcases hy with rfl | hy
    · exact hx
    · have := rising_lt h.2 y hy; omega
theorem rising_inj : ∀ {l : List Ent}, rising l = true → ∀ x ∈ l, ∀ y ∈ l, x.born = y.born → x = y
  | [], _, x, hx, _, _, _ => by simp at hx
  | z :: r, h, x, hx, y, hy, he => by
    rw [List.mem_cons] at hx hy
    rcases hx with rfl | hx
    · rcases hy with rfl | hy
      · rfl
      · have := rising_lt h y hy; omega
    · rcases hy with rfl | hy
      · have := rising_lt h x hx; omega
      · exact rising_inj (rising_tail h) x hx y hy he
theorem EntRel.mem : ∀ {l : List Ent} {l' : List MapEntry}, EntRel sy ρ l l' → ∀ y ∈ l', ∃ x ∈ l, VRel sy ρ x.key y.key ∧ VRel sy ρ x.val y.val ∧ y.born = x.born
  | [], _, h, y, hy => by simp only [EntRel] at h; subst h; simp at hy
  | x :: r, _, h, y, hy => by
    simp only [EntRel] at h
    obtain ⟨z, s, rfl, h1, h2, h3, h4⟩ := h
    rw [List.mem_cons] at hy
    rcases hy with rfl | hy
    · exact ⟨x, by simp, h1, h2, h3⟩
    · obtain ⟨q, hq, k⟩ := EntRel.mem h4 y hy
      exact ⟨q, by simp [hq], k⟩
theorem EntRel.mem' : ∀ {l : List Ent} {l' : List MapEntry}, EntRel sy ρ l l' → ∀ x ∈ l, ∃ y ∈ l', VRel sy ρ x.key y.key ∧ VRel sy ρ x.val y.val ∧ y.born = x.born
  | [], _, h, x, hx => by simp at hx
  | z :: r, _, h, x, hx => by
    simp only [EntRel] at h
    obtain ⟨y, s, rfl, h1, h2, h3, h4⟩ := h
    rw [List.mem_cons] at hx
    rcases hx with rfl | hx
    · exact ⟨y, by simp, h1, h2, h3⟩
    · obtain ⟨q, hq, k⟩ := EntRel.mem' h4 x hx
      exact ⟨q, by simp [hq], k⟩

/-! ## The step -/
theorem choose_next (n : Nat) (hn : 0 < n) (w : World) : ∃ c dr, c < n ∧ (choose (.mapNext n)).run P w = .ok c { w with drawn := dr } := by
  by_cases h : n ≤ 1
  · refine ⟨0, w.drawn, hn, ?_⟩
    simp [choose, Sem.run, Question.forced, h]
  · refine ⟨(w.tape w.drawn (.mapNext n)) % n, w.drawn + 1, Nat.mod_lt _ hn, ?_⟩
    simp [choose, Sem.run, Question.forced, h, Question.cut]

theorem next_scan {l k since last : Nat} {seen : Array Nat} {es' : Array MapEntry} {t : TypeId} (hl : w.heap[l]? = some (.mapIter (some k) since seen last)) (hk : w.heap[k]? = some (.map es' last))
    (hold : ∀ y ∈ es'.toList, y.born < since ∧ y.born < last) (hne : es'.toList ≠ []) :
    ((∀ y ∈ es'.toList, y.born ∈ seen) ∧ (Instr.next (.pointer (some ⟨l, 0, none⟩)) false t).run P w = .ok (.tuple #[.bool false]) w) ∨
    ∃ y ∈ es'.toList, y.born ∉ seen ∧ ∃ dr, (Instr.next (.pointer (some ⟨l, 0, none⟩)) false t).run P w = .ok (.tuple #[.bool true, y.key, y.val]) { w with heap := w.heap.setIfInBounds l (.mapIter (some k) since (seen.push y.born) last), drawn := dr } := by
  have hall : (!seen.isEmpty && !es'.isEmpty && es'.all (fun e => decide (e.born ≥ last))) = false := by
    have : es'.all (fun e => decide (e.born ≥ last)) = false := by
      rw [← Array.all_toList]
      cases hes : es'.toList with
      | nil => exact absurd hes hne
      | cons y r =>
        have := (hold y (by rw [hes]; simp)).2
        have h2 : ¬ y.born ≥ last := by omega
        simp [h2]
    rw [this]; simp
  have hold2 : ((es'.filter fun e => !seen.contains e.born).filter fun e => decide (e.born < since)) = es'.filter fun e => !seen.contains e.born := by
    apply Array.filter_eq_self.2
    intro y hy
    have : y ∈ es' := (Array.mem_filter.1 hy).1
    have := (hold y (by simpa using this)).1
    simpa using this
  have hnew : ((es'.filter fun e => !seen.contains e.born).filter fun e => decide (e.born ≥ since)) = #[] := by
    apply Array.filter_eq_empty_iff.2
    intro y hy
    have : y ∈ es' := (Array.mem_filter.1 hy).1
    have := (hold y (by simpa using this)).1
    simp; omega
  by_cases hE : (es'.filter fun e => !seen.contains e.born) = #[]
  · refine .inl ⟨fun y hy => ?_, ?_⟩
    · have := Array.filter_eq_empty_iff.1 hE y (by simpa using hy)
      simpa using this
    · simp only [Instr.next, Sem.run_bind, run_getObj hl (by simp), Result.andThen, run_getObj hk (by simp), hall, hE]
      simp [choose, Sem.run, Question.forced]
  · have hpos : 0 < (es'.filter fun e => !seen.contains e.born).size := by
      rcases Nat.eq_zero_or_pos (es'.filter fun e => !seen.contains e.born).size with h | h
      · exact absurd (Array.eq_empty_of_size_eq_zero h) hE
      · exact h
    obtain ⟨c, dr, hc, hrun⟩ := choose_next (P := P) _ hpos w
    have hmem : (es'.filter fun e => !seen.contains e.born)[c] ∈ es'.filter fun e => !seen.contains e.born := Array.getElem_mem hc
    have hm2 := Array.mem_filter.1 hmem
    refine .inr ⟨(es'.filter fun e => !seen.contains e.born)[c], by simpa using hm2.1, by simpa using hm2.2, dr, ?_⟩
    have hemp : (es'.filter fun e => !seen.contains e.born).isEmpty = false := by
      cases h : (es'.filter fun e => !seen.contains e.born).isEmpty with
      | false => rfl
      | true => exact absurd (by simpa using h) hE
    have hl' : ({ w with drawn := dr } : World).heap[l]? = some (.mapIter (some k) since seen last) := hl
    simp only [Instr.next, Sem.run_bind, run_getObj hl (by simp), Result.andThen, run_getObj hk (by simp), hall, hold2, hnew, hemp, Bool.false_eq_true, if_false, Array.empty_append, Array.append_empty, Array.size_map, hrun, Array.getElem?_map, Array.getElem?_eq_getElem hc, Option.map_some, run_setObj hl' (by simp), Sem.run_pure]

theorem entry_scan {l k since last : Nat} {seen : Array Nat} {es' : Array MapEntry} {y : MapEntry} (hl : w.heap[l]? = some (.mapIter (some k) since (seen.push y.born) last)) (hk : w.heap[k]? = some (.map es' last))
    {z : MapEntry} (hz : es'.toList.find? (fun e => e.born == y.born) = some z) : (Instr.entry (.pointer (some ⟨l, 0, none⟩))).run P w = .ok (.tuple #[z.key, z.val]) w := by
  have hz' : es'.find? (fun e => e.born == y.born) = some z := by rw [← Array.find?_toList]; exact hz
  simp only [Instr.entry, Sem.run_bind, run_getObj hl (by simp), Result.andThen, Array.back?_push, run_getObj hk (by simp), bne_self_eq_false, Bool.false_eq_true, if_false, hz', Sem.run_pure]

/-- the iterator's block is written: nothing of the executor's hangs on it -/
theorem WRel.poke {l dr : Nat} {O : Go.Obj} (h : WRel sy G B' w ρ st w) (hl : B'.blk l) (hro : ¬ sy.ro l) :
    WRel sy G B' { w with heap := w.heap.setIfInBounds l O, drawn := dr } ρ st { w with heap := w.heap.setIfInBounds l O, drawn := dr } where
  below := Kept.refl _ _
  base := fun k hk => by have := h.base k hk; simpa using this
  ro := h.ro
  gone := h.gone
  glob := h.glob
  dom := h.dom
  obj := fun b o hb => by
    have hx := h.obj b o hb
    by_cases hdead : o = .dead
    · subst hdead; trivial
    refine hx.of_block fun i hi => ?_
    have : l ≠ i.blk := fun e => by
      by_cases ho : owned o = true
      · obtain ⟨i', q1, q2, _⟩ := hx.own ho
        rw [hi] at q1; cases q1
        exact q2 (e ▸ hl)
      · cases o <;> simp [owned] at ho
        · obtain ⟨i', c, e', fz, q1, q2, _⟩ := hx
          rw [hi] at q1; cases q1
          exact hro (e ▸ q2)
        · exact absurd rfl hdead
    show (w.heap.setIfInBounds l O)[i.blk]? = w.heap[i.blk]?
    exact Array.getElem?_setIfInBounds_ne this
  inj := h.inj

/-! ## What the executor has found -/
/-- a round from its step on -/
def RoundIs (P : Program) (cx : Cx) (s : Scan) (v b : CV) (cur : Cur) (call : Caller) (env : List CV) (st : St) (ex : Ex) (env' : List CV) : Prop :=
  ∃ env1 loc1 env2 loc2 st', PutIs cx (some s.d0) v env .nil env1 loc1 ∧ PutIs cx (some s.d1) b env1 loc1 env2 loc2 ∧ (denQ P cx s.rest).f cur call env2 st = .ok ex env' st'
theorem stepQ_is {s : Scan} {v b : CV} {K : Ex → List CV → R} {st2 : St} (h : stepQ P cx s v b cur call env st K = .ok e env2 st2) : ∃ ex env', RoundIs P cx s v b cur call env st ex env' ∧ K ex env' = .ok e env2 st2 := by
  unfold stepQ at h
  rcases put_is (cx := cx) (some s.d0) v env .nil with ⟨env1, loc1, hp⟩ | ⟨n, hn⟩
  · rw [hp] at h
    try simp only at h
    rcases put_is (cx := cx) (some s.d1) b env1 loc1 with ⟨env3, loc3, hp2⟩ | ⟨n, hn⟩
    · rw [hp2] at h
      try simp only at h
      cases hd : (denQ P cx s.rest).f cur call env3 st with
      | err n => rw [hd] at h; cases h
      | ok ex env' st' =>
        rw [hd] at h
        exact ⟨ex, env', ⟨env1, loc1, env3, loc3, st', hp, hp2, hd⟩, h⟩
    · rw [hn] at h; cases h
  · rw [hn] at h; cases h

def LessE (cx : Cx) (l m : List CV) : Prop := ∀ t, LeV (look cx l .nil t) (look cx m .nil t)
theorem LessE.refl (l : List CV) : LessE cx l l := fun _ => .inr rfl
theorem LessE.trans {l m n : List CV} (h : LessE cx l m) (k : LessE cx m n) : LessE cx l n := fun t => (h t).trans (k t)

/-- an end that leaves the loop -/
def leaves : Ex → Bool
  | .ret => true
  | .exit _ => true
  | _ => false
theorem exAlike_eq {x y : Ex} (h : exAlike x y = true) : x = y := by
  cases x <;> cases y <;> simp [exAlike] at h
  · subst h; rfl
  · rfl

noncomputable def accK (P : Program) (cx : Cx) (s : Scan) (b : Nat) (call : Caller) (env : List CV) (st : St) (r : List Ent) (acc : Option (Ex × List CV)) (ex : Ex) (env' : List CV) (K : Option (Ex × List CV) → R) : R := match acc with
  | none => scanL P cx s b call env st r (some (ex, env')) K
  | some (ex0, env0) => bif exAlike ex0 ex then scanL P cx s b call env st r (some (ex0, alikeE env0 env')) K else .err 309
theorem scanL_spec {s : Scan} {b : Nat} : ∀ (es : List Ent) (acc : Option (Ex × List CV)) (K : Option (Ex × List CV) → R) (e : Ex) (env2 : List CV) (st2 : St), scanL P cx s b call env st es acc K = .ok e env2 st2 →
    (∀ ex en, acc = some (ex, en) → leaves ex = true) →
    ∃ acc', K acc' = .ok e env2 st2 ∧ (∀ ex en, acc' = some (ex, en) → leaves ex = true) ∧
      (∀ ex en, acc = some (ex, en) → ∃ en', acc' = some (ex, en') ∧ LessE cx en' en) ∧
      (acc = none → acc' ≠ none → ∃ x ∈ es, ∃ ex env', RoundIs P cx s (.tup [.bool true, x.key, x.val]) (.bool true) (some (b, .tup [x.key, x.val])) call env st ex env' ∧ leaves ex = true) ∧
      ∀ x ∈ es, ∃ ex env', RoundIs P cx s (.tup [.bool true, x.key, x.val]) (.bool true) (some (b, .tup [x.key, x.val])) call env st ex env' ∧
        ((ex = .normal ∧ keptE env env' = true) ∨ (leaves ex = true ∧ ∃ en', acc' = some (ex, en') ∧ LessE cx en' env'))
  | [], acc, K, e, env2, st2, h, hl => ⟨acc, h, hl, fun ex en he => ⟨en, he, .refl _⟩, fun h1 h2 => absurd h1 h2, fun x hx => by simp at hx⟩
  | x :: r, acc, K, e, env2, st2, h, hl => by
    unfold scanL at h
    obtain ⟨ex, env', hround, hk⟩ := stepQ_is h
    -- an end that leaves
    have leave : ∀ {ex : Ex}, leaves ex = true → RoundIs P cx s (.tup [.bool true, x.key, x.val]) (.bool true) (some (b, .tup [x.key, x.val])) call env st ex env' →
        accK P cx s b call env st r acc ex env' K = .ok e env2 st2 →
        ∃ acc', K acc' = .ok e env2 st2 ∧ (∀ ex en, acc' = some (ex, en) → leaves ex = true) ∧
          (∀ ex en, acc = some (ex, en) → ∃ en', acc' = some (ex, en') ∧ LessE cx en' en) ∧
          (acc = none → acc' ≠ none → ∃ x' ∈ x :: r, ∃ ex env', RoundIs P cx s (.tup [.bool true, x'.key, x'.val]) (.bool true) (some (b, .tup [x'.key, x'.val])) call env st ex env' ∧ leaves ex = true) ∧
          ∀ x' ∈ x :: r, ∃ ex env', RoundIs P cx s (.tup [.bool true, x'.key, x'.val]) (.bool true) (some (b, .tup [x'.key, x'.val])) call env st ex env' ∧
            ((ex = .normal ∧ keptE env env' = true) ∨ (leaves ex = true ∧ ∃ en', acc' = some (ex, en') ∧ LessE cx en' env')) := by
      intro ex hlv hround hk
      unfold accK at hk
      cases acc with
      | none =>
        simp only at hk
        obtain ⟨acc', g1, g2, g3, g4, g5⟩ := scanL_spec r (some (ex, env')) K e env2 st2 hk (fun _ _ h => by cases h; exact hlv)
        obtain ⟨en', q1, q2⟩ := g3 ex env' rfl
        refine ⟨acc', g1, g2, (fun _ _ h => by cases h), fun _ _ => ⟨x, by simp, ex, env', hround, hlv⟩, fun x' hx' => ?_⟩
        rw [List.mem_cons] at hx'
        rcases hx' with rfl | hx'
        · exact ⟨ex, env', hround, .inr ⟨hlv, en', q1, q2⟩⟩
        · exact g5 x' hx'
      | some p =>
        obtain ⟨ex0, env0⟩ := p
        simp only at hk
        cases ha : exAlike ex0 ex with
        | false => rw [ha] at hk; cases hk
        | true =>
          rw [ha] at hk
          simp only [cond_true] at hk
          have he := exAlike_eq ha
          subst he
          obtain ⟨acc', g1, g2, g3, g4, g5⟩ := scanL_spec r (some (ex0, alikeE env0 env')) K e env2 st2 hk (fun _ _ h => by cases h; exact hlv)
          obtain ⟨en', q1, q2⟩ := g3 ex0 _ rfl
          have l1 : LessE cx (alikeE env0 env') env0 := less_nth fun k => (alikeE_less env0 env' k).1
          have l2 : LessE cx (alikeE env0 env') env' := less_nth fun k => (alikeE_less env0 env' k).2
          refine ⟨acc', g1, g2, (fun _ _ h => by cases h; exact ⟨en', q1, q2.trans l1⟩), (fun h => by cases h), fun x' hx' => ?_⟩
          rw [List.mem_cons] at hx'
          rcases hx' with rfl | hx'
          · exact ⟨ex0, env', hround, .inr ⟨hlv, en', q1, q2.trans l2⟩⟩
          · exact g5 x' hx'
    cases ex with
    | normal =>
      simp only at hk
      cases hke : keptE env env' with
      | false => rw [hke] at hk; cases hk
      | true =>
        rw [hke] at hk
        simp only [cond_true] at hk
        obtain ⟨acc', g1, g2, g3, g4, g5⟩ := scanL_spec r acc K e env2 st2 hk hl
        refine ⟨acc', g1, g2, g3, fun h1 h2 => ?_, fun x' hx' => ?_⟩
        · obtain ⟨x', hx', q⟩ := g4 h1 h2
          exact ⟨x', by simp [hx'], q⟩
        · rw [List.mem_cons] at hx'
          rcases hx' with rfl | hx'
          · exact ⟨.normal, env', hround, .inl ⟨rfl, hke⟩⟩
          · exact g5 x' hx'
    | panic v => simp only at hk; cases hk
    | exit id => exact leave rfl hround hk
    | ret => exact leave rfl hround hk

/-! ## The loop -/
/-- what a scan knows of a loop's body -/
theorem scanOf_spec {x : Code} {s : Scan} (h : scanOf P x = some s) : ∃ id ops o q, x = .seq (.region id ops false) s.rest ∧ ops.toList = [o, q] ∧ o.guard = none ∧ q.guard = none ∧ o.op = .next s.it false ∧ o.dst = some s.d0 ∧
    q.op = .extract (.tmp s.d0) 0 ∧ q.dst = some s.d1 ∧ s.d0 ≠ s.d1 ∧ quietCode P s.rest = true := by
  unfold scanOf at h
  split at h
  · rename_i y rest
    split at h
    · rename_i id ops draw
      cases draw with
      | true => cases h
      | false =>
        simp only [cond_false] at h
        unfold scanOps at h
        split at h
        · rename_i o q hl
          split at h
          · rename_i hg1 hg2
            split at h
            · rename_i it str z k hop hoq
              split at h
              · rename_i d0 d1 hd0 hd1
                cases str with
                | true => cases h
                | false =>
                  simp only [cond_false] at h
                  cases hk : Nat.beq k 0 with
                  | false => rw [hk] at h; cases h
                  | true =>
                    rw [hk] at h
                    simp only [cond_true] at h
                    have hk0 : k = 0 := Nat.eq_of_beq_eq_true hk
                    subst hk0
                    unfold scanRest at h
                    split at h
                    · rename_i t
                      cases hc : Nat.beq t d0 && (!Nat.beq d0 d1 && quietCode P rest) with
                      | false => rw [hc] at h; cases h
                      | true =>
                        rw [hc] at h
                        cases h
                        simp only [Bool.and_eq_true, Bool.not_eq_true'] at hc
                        obtain ⟨c1, c2, c3⟩ := hc
                        have : t = d0 := Nat.eq_of_beq_eq_true c1
                        subst this
                        exact ⟨id, ops, o, q, rfl, hl, hg1, hg2, hop, hd0, hoq, hd1, (fun e => by simp only at e; subst e; rw [show Nat.beq t t = true from Nat.beq_refl t] at c2; cases c2), c3⟩
                    · cases h
              · cases h
            · cases h
          · cases h
        · cases h
    · cases h
  · cases h

theorem maskE_less (T : Nat → Bool) (env : List CV) : LessE cx (maskE T cx.vars env) env := fun t => by
  have h := look_mask (cx := cx) T env .nil t
  have e : look cx (maskE T cx.vars env) (maskL T .nil) t = look cx (maskE T cx.vars env) .nil t := rfl
  rw [e] at h
  rw [h]
  by_cases ht : T t = true
  · rw [if_pos ht]; exact .inr rfl
  · rw [if_neg ht]; exact .inl rfl

/-- the first part of a round: the step and its word; then the rest -/
theorem round_ok {x : Code} {s : Scan} {Q : Exit → Act → World → Prop} {i : BI} {v b : CV} {v' b' : Value} {w1 : World} {ex : Ex} (hcall : CallerSound sy G B' w1 P call) (hsc : scanOf P x = some s) (hs : SR sy G cx ρ env .nil a) (hd : DRel sy ρ st.dfs a.defers)
    (hit : a.eval s.it = .pointer (some ⟨i.blk, 0, none⟩)) (hstep : ∀ t, (Instr.next (.pointer (some ⟨i.blk, 0, none⟩)) false t).run P w = .ok v' w1)
    (hv : VRel sy ρ v v') (hb : VRel sy ρ b b') (hext : (Instr.extract v' 0).run P w1 = .ok b' w1)
    (hround : RoundIs P cx s v b cur call env st ex env') (hw : WRel sy G B' w1 ρ st w1) (hc : CurOk sy G B' w1 P ρ st cur)
    (hQ : ∀ e' a' w', PostC sy G B' w1 cx ρ ex env' st e' a' w' → Q e' a' w') (hno : ∀ e' a' w', Q e' a' w' → Q e' a' w') : x.wp P Q a w := by
  obtain ⟨id, ops, o, q, rfl, hl, hg1, hg2, hop, hd0, hoq, hd1, hne, hqt⟩ := scanOf_spec hsc
  obtain ⟨env1, loc1, env2, loc2, st', hp1, hp2, hrun⟩ := hround
  refine wp_seq (wp_region_list ?_)
  rw [hl]
  unfold wpList
  rw [if_pos (by simp [Region.wanted, hg1])]
  refine .inl ?_
  have e1 : (execOp a.eval o).run P w = .ok (.value v') w1 := by simp [execOp, hop, hit, hstep]
  unfold Oper.wp
  rw [e1]
  show wpList P ops _ [q] (a.put o.dst v') w1
  have hs1 : SR sy G cx ρ env1 loc1 (a.put o.dst v') := by rw [hd0]; exact hs.put hv hp1
  unfold wpList
  rw [if_pos (by simp [Region.wanted, hg2])]
  refine .inl ?_
  have ht0 : (a.put o.dst v').eval (.tmp s.d0) = v' := by
    have hlt : s.d0 < a.tmps.size := Nat.lt_of_lt_of_le ((put_look hp1).1 _ rfl) hs.size
    rw [hd0]
    simp [Act.put, Act.eval, hlt]
  have e2 : (execOp (a.put o.dst v').eval q).run P w1 = .ok (.value b') w1 := by simp [execOp, hoq, ht0, hext]
  unfold Oper.wp
  rw [e2]
  show Code.wp P s.rest Q ((a.put o.dst v').put q.dst b') w1
  have hs2 : SR sy G cx ρ env2 .nil ((a.put o.dst v').put q.dst b') := by
    rw [hd1]
    exact (hs1.put hb hp2).less (less_loc env2 loc2)
  have hdf : ((a.put o.dst v').put q.dst b').defers = a.defers := by cases o.dst <;> cases q.dst <;> rfl
  have h := denQ_ok (cur := cur) hcall s.rest env2 ex env' st' ρ _ w1 hqt hrun hc hs2 (by rw [hdf]; exact hd) hw
  exact Code.wp_mono (fun e' a' w' hp => hQ _ _ _ hp) h.2

theorem leaves_ok {R : Exit → Act → World → Prop} {ex : Ex} {e' : Exit} {K : Act → World → Prop} {a' : Act} {w' : World} (hlv : leaves ex = true) (hex : ExRel sy ρ ex e') (h : R e' a' w') : Exit.then K R e' a' w' := by
  cases ex <;> simp [leaves] at hlv <;> (simp only [ExRel] at hex; subst hex; exact h)

noncomputable def putE (cx : Cx) (d : Option Nat) (v : CV) (env : List CV) : List CV := match d with
  | none => env
  | some t => match pos cx.vars t with
    | some k => setNth env v k
    | none => env
theorem putIs_env {d : Option Nat} {v : CV} {loc1 : Loc} (h : PutIs cx d v env loc env1 loc1) : env1 = putE cx d v env := by
  have h' := h (fun e _ _ => .ok .normal e ⟨.nil, 0, []⟩) ⟨.nil, 0, []⟩
  unfold put at h'
  unfold putE
  cases d with
  | none => simpa using h'.symm
  | some t =>
    simp only at h' ⊢
    cases hb : Nat.blt t cx.nt with
    | false => rw [hb] at h'; cases h'
    | true =>
      rw [hb] at h'
      simp only [putAt] at h'
      cases hp : pos cx.vars t with
      | none => rw [hp] at h'; simpa using h'.symm
      | some k => rw [hp] at h'; simpa using h'.symm
theorem RoundIs.det {s : Scan} {v b : CV} {ex ex2 : Ex} {env1 env2 : List CV} (h : RoundIs P cx s v b cur call env st ex env1) (k : RoundIs P cx s v b cur call env st ex2 env2) : ex = ex2 := by
  obtain ⟨e1, l1, e2, l2, s1, p1, p2, p3⟩ := h
  obtain ⟨f1, m1, f2, m2, s2, q1, q2, q3⟩ := k
  have a1 := putIs_env p1
  have a2 := putIs_env q1
  have b1 := putIs_env p2
  have b2 := putIs_env q2
  subst a1; subst a2; subst b1; subst b2
  rw [p3] at q3
  cases q3
  rfl
theorem EntRel.find : ∀ {l : List Ent} {l' : List MapEntry}, EntRel sy ρ l l' → rising l = true → ∀ y ∈ l, ∃ z, l'.find? (fun e => e.born == y.born) = some z ∧ VRel sy ρ y.key z.key ∧ VRel sy ρ y.val z.val
  | [], _, h, _, y, hy => by simp at hy
  | x :: r, _, h, hr, y, hy => by
    simp only [EntRel] at h
    obtain ⟨z, s, rfl, h1, h2, h3, h4⟩ := h
    by_cases e : y.born = x.born
    · have : y = x := rising_inj hr y hy x (by simp) e
      subst this
      exact ⟨z, by simp [h3], h1, h2⟩
    · have hy' : y ∈ r := by
        rw [List.mem_cons] at hy
        rcases hy with rfl | hy
        · exact absurd rfl e
        · exact hy
      obtain ⟨q, k1, k2, k3⟩ := EntRel.find h4 (rising_tail hr) y hy'
      refine ⟨q, ?_, k2, k3⟩
      rw [List.find?_cons]
      have : (z.born == y.born) = false := by
        rw [h3]
        simpa using Ne.symm e
      rw [this]
      exact k1

theorem scan_ok {x : Code} {s : Scan} {acc : Option (Ex × List CV)} {i k : BI} {mb b : Nat} {es : List Ent} {since last : Nat} {st2 : St} (hall : ∀ B w0, CallerSound sy G B w0 P call) (hsc : scanOf P x = some s)
    (hris : rising es = true) (hold : ∀ y ∈ es, y.born < since ∧ y.born < last) (hne : es ≠ []) (hmap : st.heap.get mb = some (.map es last)) (hro : ¬ sy.ro i.blk) (hBi : ¬ B.blk i.blk) (hBro : ∀ k, sy.ro k → B.blk k) (hz : i.sh = 0)
    (hends : ∀ y ∈ es, ∃ ex env', RoundIs P cx s (.tup [.bool true, y.key, y.val]) (.bool true) (some (b, .tup [y.key, y.val])) call env st ex env' ∧ ((ex = .normal ∧ keptE env env' = true) ∨ (leaves ex = true ∧ ∃ en', acc = some (ex, en') ∧ LessE cx en' env')))
    (hacc : acc ≠ none → ∃ y ∈ es, ∃ ex env', RoundIs P cx s (.tup [.bool true, y.key, y.val]) (.bool true) (some (b, .tup [y.key, y.val])) call env st ex env' ∧ leaves ex = true)
    (hend : scanEnd P cx s call env st acc = .ok e env2 st2) : ∀ (m : Nat) (ρ : Ren) (a : Act) (w : World) (seen : Array Nat), (es.countP fun y => !seen.contains y.born) = m → ρ b = some i → ρ mb = some k → SR sy G cx ρ env .nil a → DRel sy ρ st.dfs a.defers →
    WRel sy G ⟨fun z => B.blk z ∨ z = i.blk, B.no⟩ w ρ st w → Kept B w0 w → w.heap[i.blk]? = some (.mapIter (some k.blk) since seen last) → VRel sy ρ ((ev cx s.it).f env .nil) (.pointer (some ⟨i.blk, 0, none⟩)) → (∃ p q, (ev cx s.it).f env .nil = .ptr p q) →
    (∀ y ∈ es, ∀ ex env', RoundIs P cx s (.tup [.bool true, y.key, y.val]) (.bool true) (some (b, .tup [y.key, y.val])) call env st ex env' → leaves ex = true → y.born ∉ seen) →
    LoopIn P x (PostC sy G B w0 cx ρ e env2 st2) a w := by
  intro m
  induction m using Nat.strongRecOn with
  | _ m ih =>
    intro ρ a w seen hm hb hk hs hd hw hkp hit hitv hitp hun
    obtain ⟨k', es', q1, q2, q3, q4⟩ := hw.obj mb _ hmap
    rw [hk] at q1; cases q1
    -- the iterator's slot
    have hev : ∀ {ρ1 : Ren} {a1 : Act} {w1 w2 : World} {B1 : Kp}, ρ.le ρ1 → SR sy G cx ρ1 env .nil a1 → WRel sy G B1 w1 ρ1 st w2 → a1.eval s.it = .pointer (some ⟨i.blk, 0, none⟩) := fun {ρ1 a1 w1 w2 B1} hle hs1 hw1 => by
      have h1 := evRel hs1 hw1 s.it
      obtain ⟨p, q, hpq⟩ := hitp
      rw [hpq] at h1 hitv
      simp only [VRel] at h1 hitv
      obtain ⟨j, j1, j2⟩ := hitv
      obtain ⟨j', g1, g2⟩ := h1
      have := hle _ _ j1
      rw [g1] at this; cases this
      rw [g2, j2]
    have hold' : ∀ y ∈ es'.toList, y.born < since ∧ y.born < last := fun y hy => by
      obtain ⟨z, hz1, _, _, hz2⟩ := q4.mem y hy
      rw [hz2]; exact hold z hz1
    have hne' : es'.toList ≠ [] := fun h => by
      cases es with
      | nil => exact hne rfl
      | cons z r =>
        obtain ⟨y, hy, _⟩ := q4.mem' z (by simp)
        rw [h] at hy; simp at hy
    -- back to what was kept
    have back : ∀ {w1 w2 : World} {ρ1 : Ren}, Kept B w w1 → WRel sy G ⟨fun z => B.blk z ∨ z = i.blk, B.no⟩ w1 ρ1 st w2 → WRel sy G B w0 ρ1 st w2 := fun h1 h2 =>
      h2.shrink (fun _ h => .inl h) (fun _ h => h) hBro ((hkp.trans h1).trans (Kept.sub (B' := ⟨fun z => B.blk z ∨ z = i.blk, B.no⟩) (fun _ h => .inl h) h2.below))
    rcases next_scan (P := P) (t := 0) hit q3 hold' hne' with ⟨hseen, hrun⟩ | ⟨y', hy', huns, dr, hrun⟩
    · -- nothing is left
      have hnone : acc = none := by
        cases hacc2 : acc with
        | none => rfl
        | some p =>
          exfalso
          obtain ⟨y, hy, ex, env', hr, hlv⟩ := hacc (by rw [hacc2]; simp)
          obtain ⟨z, hz1, _, _, hz2⟩ := q4.mem' y hy
          exact hun y hy ex env' hr hlv (by rw [← hz2]; exact hseen z hz1)
      subst hnone
      unfold scanEnd at hend
      obtain ⟨ex, env', hround, hK⟩ := stepQ_is hend
      have hx : leaves ex = true ∧ e = ex ∧ env2 = env' ∧ st2 = st := by
        cases ex <;> simp only at hK <;> cases hK <;> exact ⟨rfl, rfl, rfl, rfl⟩
      obtain ⟨hlv, rfl, rfl, rfl⟩ := hx
      refine loopIn_step (round_ok (i := i) (w1 := w) (hall _ _) hsc hs hd (hev (Ren.le_refl _) hs hw) (fun t => hrun) (v' := .tuple #[.bool false]) (b' := .bool false) (by simp only [VRel]; exact ⟨[.bool false], by simp, VRels.cons (by simp only [VRel]) VRels.nil⟩) (by simp only [VRel])
        (by simp [Instr.extract]) hround hw (fun _ _ h => by cases h) (fun e' a' w' hp => ?_) (fun _ _ _ h => h))
      obtain ⟨ρ1, hle, hex, hs1, hd1, hw1⟩ := hp
      exact leaves_ok hlv hex ⟨ρ1, hle, hex, hs1, hd1, back (Kept.refl _ _) hw1⟩
    · -- an entry has come
      obtain ⟨y, hy, hyk, hyv, hyb⟩ := q4.mem y' hy'
      obtain ⟨ex, env', hround, halt⟩ := hends y hy
      have hlt : i.blk < w.heap.size := (Array.getElem?_eq_some_iff.1 hit).1
      have hw1 := hw.poke (l := i.blk) (dr := dr) (O := .mapIter (some k.blk) since (seen.push y'.born) last) (.inr rfl) hro
      generalize hW : ({ w with heap := w.heap.setIfInBounds i.blk (.mapIter (some k.blk) since (seen.push y'.born) last), drawn := dr } : World) = w1 at hrun hw1
      have hit1 : w1.heap[i.blk]? = some (.mapIter (some k.blk) since (seen.push y'.born) last) := by rw [← hW]; simp [hlt]
      have hkp1 : Kept B w w1 := by
        rw [← hW]
        exact ⟨rfl, rfl, rfl, by simp, fun z hz => by
          have : i.blk ≠ z := fun e => hBi (e ▸ hz)
          exact Array.getElem?_setIfInBounds_ne this⟩
      have hcur : CurOk sy G ⟨fun z => B.blk z ∨ z = i.blk, B.no⟩ w1 P ρ st (some (b, .tup [y.key, y.val])) := fun b2 ent he => by
        cases he
        refine ⟨i, hb, hz, fun ρ2 w2 hle2 hw2 => ?_⟩
        have h1 : w2.heap[i.blk]? = some (.mapIter (some k.blk) since (seen.push y'.born) last) := by rw [hw2.below.block _ (.inr rfl)]; exact hit1
        obtain ⟨k2, es2, r1, r2, r3, r4⟩ := hw2.obj mb _ hmap
        rw [hle2 _ _ hk] at r1; cases r1
        obtain ⟨z, z1, z2, z3⟩ := r4.find hris y hy
        rw [← hyb] at z1
        exact ⟨.tuple #[z.key, z.val], by simp only [VRel]; exact ⟨[z.key, z.val], by simp, VRels.cons z2 (VRels.cons z3 VRels.nil)⟩, entry_scan h1 r3 z1⟩
      refine loopIn_step (round_ok (i := i) (w1 := w1) (hall _ _) hsc hs hd (hev (Ren.le_refl _) hs hw) (fun t => hrun) (v' := .tuple #[.bool true, y'.key, y'.val]) (b' := .bool true)
        (by simp only [VRel]; exact ⟨[.bool true, y'.key, y'.val], by simp, VRels.cons (by simp only [VRel]) (VRels.cons hyk (VRels.cons hyv VRels.nil))⟩) (by simp only [VRel])
        (by simp [Instr.extract]) hround hw1 hcur (fun e' a' w' hp => ?_) (fun _ _ _ h => h))
      obtain ⟨ρ1, hle, hex, hs1, hd1, hw2⟩ := hp
      rcases halt with ⟨rfl, hkept⟩ | ⟨hlv, en', hac, hless⟩
      · simp only [ExRel] at hex
        subst hex
        have hs2 : SR sy G cx ρ1 env .nil a' := hs1.less fun t => less_nth (keptE_less _ _ hkept) t
        have hcnt : (es.countP fun z => !(seen.push y'.born).contains z.born) < m := by
          rw [← hm]
          have key : ∀ (l : List Ent), y ∈ l → (l.countP fun z => !(seen.push y'.born).contains z.born) < l.countP fun z => !seen.contains z.born := by
            have le : ∀ l : List Ent, (l.countP fun z => !(seen.push y'.born).contains z.born) ≤ l.countP fun z => !seen.contains z.born := fun l => List.countP_mono_left fun z _ h => by
              simp only [Array.contains_push, Bool.not_or, Bool.and_eq_true] at h
              exact h.1
            intro l
            induction l with
            | nil => intro h; simp at h
            | cons z r ihr =>
              intro h
              rw [List.countP_cons, List.countP_cons]
              by_cases hzy : z = y
              · subst hzy
                have h1 : (!(seen.push y'.born).contains z.born) = false := by rw [← hyb]; simp
                have h2 : (!seen.contains z.born) = true := by rw [← hyb]; simpa using huns
                rw [h1, h2]
                have := le r
                simp only [Bool.false_eq_true, if_false, if_true]
                omega
              · rw [List.mem_cons] at h
                have := ihr (h.resolve_left fun e => hzy e.symm)
                have h3 : (if (!(seen.push y'.born).contains z.born) = true then 1 else 0) ≤ if (!seen.contains z.born) = true then 1 else 0 := by
                  by_cases hc : (!(seen.push y'.born).contains z.born) = true
                  · rw [if_pos hc]
                    simp only [Array.contains_push, Bool.not_or, Bool.and_eq_true] at hc
                    rw [if_pos hc.1]
                    exact Nat.le_refl _
                  · rw [if_neg hc]; exact Nat.zero_le _
                omega
          exact key es hy
        show LoopIn P x (PostC sy G B w0 cx ρ e env2 st2) a' w'
        have hloop := ih _ hcnt ρ1 a' w' (seen.push y'.born) rfl (hle _ _ hb) (hle _ _ hk) hs2 hd1 hw2.again ((hkp.trans hkp1).trans (Kept.sub (B' := ⟨fun z => B.blk z ∨ z = i.blk, B.no⟩) (fun _ h => .inl h) hw2.below)) (by rw [hw2.below.block _ (.inr rfl)]; exact hit1) (hitv.mono sy hle) hitp (fun z hz2 ex2 env3 hr2 hlv2 => by
          intro hmem
          rw [Array.mem_push] at hmem
          rcases hmem with h | h
          · exact hun z hz2 ex2 env3 hr2 hlv2 h
          · have : z = y := rising_inj hris z hz2 y hy (by rw [h, hyb])
            subst this
            have := hround.det hr2
            subst this
            cases hlv2)
        exact fun b0 k0 cs0 => by
          obtain ⟨e3, a3, w3, q3, r3⟩ := hloop b0 k0 cs0
          exact ⟨e3, a3, w3, q3.mono hle, r3⟩
      · subst hac
        unfold scanEnd at hend
        cases hend
        exact leaves_ok hlv hex ⟨ρ1, hle, hex, hs1.less hless, hd1, back hkp1 hw2⟩

/-- a block of the executor's is given up, and kept as it is -/
theorem WRel.unown {h : T Obj} {n b : Nat} {d : List Dfr} {ob : Obj} {i : BI} (hw : WRel sy G B w0 ρ ⟨h, n, d⟩ w) (hb : h.get b = some ob) (ho : owned ob = true) (hi : ρ b = some i) :
    WRel sy G ⟨fun z => B.blk z ∨ z = i.blk, B.no⟩ w ρ ⟨T.set h .dead b, n, d⟩ w := by
  obtain ⟨i', k1, k2, k3⟩ := (hw.obj b _ hb).own ho
  rw [hi] at k1; cases k1
  have ne : ∀ {c : Nat} {o : Obj}, h.get c = some o → c ≠ b → owned o = true → ∀ {j : BI}, ρ c = some j → j.blk ≠ i.blk := fun {c o} hc hcb hoc {j} hj e => hcb (hw.inj c b o ob j i hc hoc hb ho hj hi e)
  exact {
    below := Kept.refl _ _
    base := fun k hk => by
      rcases hk with hk | rfl
      · exact hw.base k hk
      · exact k3
    ro := fun k hk => .inl (hw.ro k hk)
    gone := hw.gone
    glob := hw.glob
    dom := hw.dom
    obj := fun c o hc => by
      simp only [T.get_set] at hc
      by_cases hcb : c = b
      · subst hcb; rw [if_pos rfl] at hc; cases hc; trivial
      · rw [if_neg hcb] at hc
        have hx := hw.obj c o hc
        cases o with
        | row cells n es fr inf =>
          obtain ⟨j, c', e, fz, g1, g2, g3⟩ := hx
          exact ⟨j, c', e, fz, g1, fun q => q.elim g2 (ne hc hcb rfl g1), g3⟩
        | ro cells n => exact hx
        | map es clock =>
          obtain ⟨j, es', g1, g2, g3⟩ := hx
          exact ⟨j, es', g1, fun q => q.elim g2 (ne hc hcb rfl g1), g3⟩
        | siter l n p =>
          obtain ⟨j, g1, g2, g3⟩ := hx
          exact ⟨j, g1, fun q => q.elim g2 (ne hc hcb rfl g1), g3⟩
        | miter m since seen stepped =>
          obtain ⟨j, m', g1, g2, g3⟩ := hx
          exact ⟨j, m', g1, fun q => q.elim g2 (ne hc hcb rfl g1), g3⟩
        | coll =>
          obtain ⟨j, g1, g2, g3⟩ := hx
          exact ⟨j, g1, fun q => q.elim g2 (ne hc hcb rfl g1), g3⟩
        | dead => trivial
    inj := fun b1 b2 o1 o2 i1 i2 h1 q1 h2 q2 r1 r2 e => by
      simp only [T.get_set] at h1 h2
      by_cases e1 : b1 = b
      · subst e1; rw [if_pos rfl] at h1; cases h1; cases q1
      · by_cases e2 : b2 = b
        · subst e2; rw [if_pos rfl] at h2; cases h2; cases q2
        · rw [if_neg e1] at h1
          rw [if_neg e2] at h2
          exact hw.inj b1 b2 o1 o2 i1 i2 h1 q1 h2 q2 r1 r2 e }

theorem scanF_ok {x : Code} {s : Scan} {b : Nat} {es : List Ent} {since last : Nat} {st2 : St} (hall : ∀ B w0, CallerSound sy G B w0 P call) (hsc : scanOf P x = some s) (hat : scanAt x s cx env st = some (b, es, since, last))
    (hr : scanF P cx x s call b es since last env st = .ok e env2 st2) (hs : SR sy G cx ρ env .nil a) (hd : DRel sy ρ st.dfs a.defers) (hw : WRel sy G B w0 ρ st w) : LoopIn P x (PostC sy G B w0 cx ρ e env2 st2) a w := by
  unfold scanAt at hat
  split at hat
  · rename_i b' o' hev
    cases ho : Nat.beq o' 0 with
    | false => rw [ho] at hat; cases hat
    | true =>
      rw [ho] at hat
      simp only [cond_true] at hat
      have : o' = 0 := Nat.eq_of_beq_eq_true ho
      subst this
      split at hat
      · rename_i ob hg
        split at hat
        · rename_i m since' seen last'
          split at hat
          · rename_i mb
            split at hat
            · rename_i oc hgm
              split at hat
              · rename_i es' clock
                cases hcl : Nat.beq clock last' with
                | false => rw [hcl] at hat; cases hat
                | true =>
                  rw [hcl] at hat
                  simp only [cond_true] at hat
                  have : clock = last' := Nat.eq_of_beq_eq_true hcl
                  subst this
                  split at hat
                  · rename_i y1 y2 r
                    cases hat
                    unfold scanF at hr
                    cases hc : (rising (y1 :: y2 :: r) && (y1 :: y2 :: r).all fun e => Nat.blt e.born since && Nat.blt e.born last) with
                    | false => rw [hc] at hr; cases hr
                    | true =>
                      rw [hc] at hr
                      rw [Bool.and_eq_true] at hc
                      obtain ⟨hris, hall2⟩ := hc
                      obtain ⟨h, n, d⟩ := st
                      simp only [cond_true] at hr
                      obtain ⟨i, m', k1, k2, k3, k4, k, k5, k6⟩ := hw.obj b _ hg
                      subst k6
                      have hro : ¬ sy.ro i.blk := fun hh => k2 (hw.ro _ hh)
                      have hne : mb ≠ b := fun e => by subst e; rw [hg] at hgm; cases hgm
                      obtain ⟨acc', a1, a2, _, a4, a5⟩ := scanL_spec _ none _ e env2 st2 hr (fun _ _ h => by cases h)
                      have hit : VRel sy ρ ((ev cx s.it).f (maskE (unwritten (codeOps x)) cx.vars env) .nil) (.pointer (some ⟨i.blk, 0, none⟩)) := by
                        rw [hev]
                        simp only [VRel]
                        exact ⟨i, k1, by simp [k3]⟩
                      refine scan_ok hall hsc hris (fun y hy => ?_) (by simp) (by simp only [T.get_set]; rw [if_neg hne]; exact hgm) hro k2 hw.ro k3 a5 (fun h => a4 rfl h) a1 _ ρ a w #[] rfl k1 k5 (hs.less (maskE_less _ _)) hd (hw.unown hg rfl k1) hw.below (by simpa using k4) hit ⟨b, 0, hev⟩ (fun y _ _ _ _ _ => by simp)
                      have := List.all_eq_true.1 hall2 y hy
                      rw [Bool.and_eq_true] at this
                      exact ⟨by simpa [Nat.blt_eq] using this.1, by simpa [Nat.blt_eq] using this.2⟩
                  · cases hat
              · cases hat
            · cases hat
          · cases hat
        · cases hat
      · cases hat
  · cases hat
end
end Go.Proofs.YtbmbjaogcmokoaaGreatDoorX

namespace Go.Proofs.YtbmbjaogcmokoaaGreatDoorX
open Go Go.RowKit
set_option linter.unusedVariables false

section
variable {sy : Sy} {G : Nat} {B : Kp} {w0 : World} {P : Program} {ρ ρ' : Ren} {cx : Cx} {env env' : List CV} {loc : Loc} {a : Act} {st st' : St} {w w' : World} {o : Oper} {call : Caller} {ex : Ex}

theorem den_ok (hall : ∀ B w0, CallerSound sy G B w0 P call) (hdraw : ∀ (id : Nat) (ops : Array Oper), Den sy G B w0 P cx (.region id ops true) ((den P cx (.region id ops true)).f call)) :
    ∀ c, Den sy G B w0 P cx c ((den P cx c).f call) := by
  intro c
  induction c with
  | skip =>
    intro env st e env2 st2 ρ a w hr hs hd hw
    have hr' : R.ok .normal env st = .ok e env2 st2 := hr
    cases hr'
    exact wp_skip ⟨ρ, Ren.le_refl _, rfl, hs, hd, hw⟩
  | label l =>
    intro env st e env2 st2 ρ a w hr hs hd hw
    have hr' : R.ok .normal env st = .ok e env2 st2 := hr
    cases hr'
    exact wp_label ⟨ρ, Ren.le_refl _, rfl, hs, hd, hw⟩
  | region id ops draw =>
    cases draw with
    | true => exact hdraw id ops
    | false =>
      intro env st e env2 st2 ρ a w hr hs hd hw
      exact wp_region_list (ops_ok (hall B w0) ops.toList env .nil st e env2 st2 ρ a w hr hs hd hw fun _ _ _ h => h)
  | seq x y ihx ihy =>
    intro env st e env2 st2 ρ a w hr hs hd hw
    have hr' : (match (den P cx x).f call env st with
      | .ok e env st => match e with
        | .normal => (den P cx y).f call env st
        | e => .ok e env st
      | .err n => .err n : R) = .ok e env2 st2 := hr
    cases hf : (den P cx x).f call env st with
    | err k => rw [hf] at hr'; cases hr'
    | ok e1 env1 st1 =>
      rw [hf] at hr'
      refine wp_seq (Code.wp_mono (fun e' a' w' hp => ?_) (ihx env st e1 env1 st1 ρ a w hf hs hd hw))
      obtain ⟨ρ1, hle, hex, hs1, hd1, hw1⟩ := hp
      cases e1 with
      | normal =>
        simp only [ExRel] at hex
        subst hex
        exact Code.wp_mono (fun _ _ _ h => h.mono hle) (ihy env1 st1 e env2 st2 ρ1 a' w' hr' hs1 hd1 hw1)
      | exit id => simp only at hr'; cases hr'; simp only [ExRel] at hex; subst hex; exact ⟨ρ1, hle, rfl, hs1, hd1, hw1⟩
      | ret => simp only at hr'; cases hr'; simp only [ExRel] at hex; subst hex; exact ⟨ρ1, hle, rfl, hs1, hd1, hw1⟩
      | panic v => simp only at hr'; cases hr'; obtain ⟨v', rfl, hv⟩ := hex; exact ⟨ρ1, hle, ⟨v', rfl, hv⟩, hs1, hd1, hw1⟩
  | cond x y z ihy ihz =>
    intro env st e env2 st2 ρ a w hr hs hd hw
    have hr' : (match (ev cx x).f env .nil with
      | .bool t => match t with
        | true => (den P cx y).f call env st
        | false => (den P cx z).f call env st
      | _ => .err 117 : R) = .ok e env2 st2 := hr
    cases hv : (ev cx x).f env .nil <;> rw [hv] at hr' <;> try (cases hr'; done)
    rename_i t
    have he := eval_cond hs hw hv
    cases t with
    | true => exact wp_cond_true he (ihy env st e env2 st2 ρ a w hr' hs hd hw)
    | false => exact wp_cond_false he (ihz env st e env2 st2 ρ a w hr' hs hd hw)
  | block id x ih =>
    intro env st e env2 st2 ρ a w hr hs hd hw
    have hr' : (match (den P cx x).f call env st with
      | .ok e env st => match e with
        | .exit j => bif Nat.beq j id then .ok .normal env st else .ok (.exit j) env st
        | e => .ok e env st
      | .err n => .err n : R) = .ok e env2 st2 := hr
    cases hf : (den P cx x).f call env st with
    | err k => rw [hf] at hr'; cases hr'
    | ok e1 env1 st1 =>
      rw [hf] at hr'
      refine wp_block (Code.wp_mono (fun e' a' w' hp => ?_) (ih env st e1 env1 st1 ρ a w hf hs hd hw))
      obtain ⟨ρ1, hle, hex, hs1, hd1, hw1⟩ := hp
      cases e1 with
      | normal => simp only at hr'; cases hr'; simp only [ExRel] at hex; subst hex; exact ⟨ρ1, hle, rfl, hs1, hd1, hw1⟩
      | exit j =>
        simp only [ExRel] at hex
        subst hex
        simp only at hr'
        cases hj : Nat.beq j id with
        | true =>
          rw [hj] at hr'
          simp only [cond_true] at hr'
          cases hr'
          have : j = id := Nat.eq_of_beq_eq_true hj
          simp only [Exit.inBlock, this, if_true]
          exact ⟨ρ1, hle, rfl, hs1, hd1, hw1⟩
        | false =>
          rw [hj] at hr'
          simp only [cond_false] at hr'
          cases hr'
          have : j ≠ id := fun h => by subst h; rw [Nat.beq_refl] at hj; cases hj
          simp only [Exit.inBlock, if_neg this]
          exact ⟨ρ1, hle, rfl, hs1, hd1, hw1⟩
      | ret => simp only at hr'; cases hr'; simp only [ExRel] at hex; subst hex; exact ⟨ρ1, hle, rfl, hs1, hd1, hw1⟩
      | panic v => simp only at hr'; cases hr'; obtain ⟨v', rfl, hv⟩ := hex; exact ⟨ρ1, hle, ⟨v', rfl, hv⟩, hs1, hd1, hw1⟩
  | loop x ih =>
    intro env st e env2 st2 ρ a w hr hs hd hw
    refine wp_of_loopIn ?_
    unfold den at hr
    cases hsc : scanOf P x with
    | none =>
      rw [hsc] at hr
      exact loop_ok ih 10000000 env st e env2 st2 ρ a w hr hs hd hw
    | some s =>
      rw [hsc] at hr
      simp only at hr
      cases hat : scanAt x s cx env st with
      | none =>
        rw [hat] at hr
        exact loop_ok ih 10000000 env st e env2 st2 ρ a w hr hs hd hw
      | some q =>
        obtain ⟨b, es, since, last⟩ := q
        rw [hat] at hr
        exact scanF_ok hall hsc hat hr hs hd hw
  | rangeFunc f ps x y _ _ =>
    intro env st e env2 st2 ρ a w hr hs hd hw
    refine Code.wp_mono (fun e' a' w' hp => ?_) (rangeFunc_ok hall hr hs hd hw)
    obtain ⟨ρ1, hle, rfl, rfl, hs1, hd1, hw1⟩ := hp
    exact ⟨ρ1, hle, rfl, hs1, hd1, hw1⟩
  | exit id =>
    intro env st e env2 st2 ρ a w hr hs hd hw
    have hr' : R.ok (.exit id) env st = .ok e env2 st2 := hr
    cases hr'
    exact wp_exit ⟨ρ, Ren.le_refl _, rfl, hs, hd, hw⟩
  | scope x ih =>
    intro env st e env2 st2 ρ a w hr hs hd hw
    refine wp_scope_straight (Code.wp_mono (fun e' a' w' hp => ?_) (ih env st e env2 st2 ρ a w hr hs hd hw))
    have hp' := hp
    obtain ⟨ρ1, hle, hex, _⟩ := hp
    cases e <;> simp only [ExRel] at hex
    case panic => obtain ⟨_, rfl, _⟩ := hex; exact hp'
    all_goals subst hex; exact hp'
  | goto l =>
    intro env st e env2 st2 ρ a w hr
    have hr' : R.err 118 = .ok e env2 st2 := hr
    cases hr'
  | ret =>
    intro env st e env2 st2 ρ a w hr hs hd hw
    have hr' : R.ok .ret env st = .ok e env2 st2 := hr
    cases hr'
    exact wp_ret ⟨ρ, Ren.le_refl _, rfl, hs, hd, hw⟩
  | refuse s =>
    intro env st e env2 st2 ρ a w hr
    have hr' : R.err 118 = .ok e env2 st2 := hr
    cases hr'
end
end Go.Proofs.YtbmbjaogcmokoaaGreatDoorX

namespace Go.Proofs.YtbmbjaogcmokoaaGreatDoorX
open Go Go.RowKit
set_option linter.unusedVariables false

section
variable {sy : Sy} {G : Nat} {B : Kp} {w0 : World} {P : Program} {ρ ρ' : Ren} {cx : Cx} {env env' : List CV} {loc : Loc} {a : Act} {st st' : St} {w w' : World} {o : Oper} {call : Caller} {ex : Ex}

theorem putS_rel {v : CV} {v' : Value} {d : Option Nat} {K : List CV → Loc → RS} (hs : SR sy G cx ρ env loc a) (hv : VRel sy ρ v v') {e : Ex} {env2 : List CV} {st2 : St} {m2 : Option Md}
    (hr : (putS cx d).f v env loc K = .ok e env2 st2 m2) : ∃ env1 loc1, K env1 loc1 = .ok e env2 st2 m2 ∧ SR sy G cx ρ env1 loc1 (a.put d v') := by
  unfold putS at hr
  cases d with
  | none => exact ⟨env, loc, hr, hs⟩
  | some t =>
    simp only at hr
    cases hb : Nat.blt t cx.nt with
    | false => rw [hb] at hr; cases hr
    | true =>
      have hlt : t < a.tmps.size := Nat.lt_of_lt_of_le (by simpa [Nat.blt_eq] using hb) hs.size
      rw [hb] at hr
      simp only at hr
      have hslot : ∀ u, (a.put (some t) v').tmps.getD u undef = if u = t then v' else a.tmps.getD u undef := fun u => getD_set _ _ _ _ _ hlt
      cases hp : pos cx.vars t with
      | some k =>
        rw [hp] at hr
        refine ⟨_, _, hr, hs.ng, by simp [Act.put]; exact hs.size, fun u => ?_⟩
        rw [hslot]
        have hu := hs.slot u
        unfold look at hu ⊢
        cases hpu : pos cx.vars u with
        | none =>
          rw [hpu] at hu
          have hne : u ≠ t := fun e => by subst e; rw [hp] at hpu; cases hpu
          rw [if_neg hne]; exact hu
        | some j =>
          rw [hpu] at hu
          simp only at hu ⊢
          rw [nth_setNth]
          by_cases hut : u = t
          · subst hut
            rw [hp] at hpu; cases hpu
            rw [if_pos rfl]
            by_cases hk : k < env.length
            · rw [if_pos ⟨rfl, hk⟩]; exact hv
            · rw [if_neg (by omega), nth_ge env k (by omega)]; simp [VRel]
          · rw [if_neg hut]
            have hjk : j ≠ k := fun e => by subst e; exact hut (pos_inj hpu hp)
            rw [if_neg (by omega)]; exact hu
      | none =>
        rw [hp] at hr
        refine ⟨_, _, hr, hs.ng, by simp [Act.put]; exact hs.size, fun u => ?_⟩
        rw [hslot]
        have hu := hs.slot u
        unfold look at hu ⊢
        cases hpu : pos cx.vars u with
        | some j =>
          rw [hpu] at hu
          have hne : u ≠ t := fun e => by subst e; rw [hp] at hpu; cases hpu
          rw [if_neg hne]; exact hu
        | none =>
          rw [hpu] at hu
          simp only at hu ⊢
          rw [loc_look_cons]
          by_cases hut : u = t
          · subst hut
            rw [if_pos rfl, show Nat.beq u u = true from Nat.beq_refl u]; exact hv
          · rw [if_neg hut]
            have : Nat.beq t u = false := by
              cases hx : Nat.beq t u with
              | false => rfl
              | true => exact absurd (Nat.eq_of_beq_eq_true hx).symm hut
            rw [this]; exact hu

/-- how the frame above is -/
def MdRel (sy : Sy) (ρ : Ren) : Option Md → FrameMode → Prop
  | none, u => u = .returning
  | some x, u => ∃ v', u = .panicking [⟨v', x.rcv, false⟩] ∧ VRel sy ρ x.v v'
theorem MdRel.mono (h : ρ.le ρ') {m : Option Md} {u : FrameMode} (k : MdRel sy ρ m u) : MdRel sy ρ' m u := by
  cases m with
  | none => exact k
  | some x => obtain ⟨v', h1, h2⟩ := k; exact ⟨v', h1, h2.mono sy h⟩

/-- what is owed behind a code of a deferred function -/
def PostS (sy : Sy) (G : Nat) (B : Kp) (w0 : World) (cx : Cx) (ρ : Ren) (c₀ : Frame) (cs : List Frame) (e : Ex) (env : List CV) (st : St) (m : Option Md) : Exit → Act → List Frame → World → Prop := fun e' a' cs' w' =>
  ∃ ρ' u', ρ.le ρ' ∧ ExRel sy ρ' e e' ∧ SR sy G cx ρ' env .nil a' ∧ DRel sy ρ' st.dfs a'.defers ∧ WRel sy G B w0 ρ' st w' ∧ MdRel sy ρ' m u' ∧ cs' = { c₀ with mode := u' } :: cs

theorem isRecover_spec (h : isRecover o = true) : ∃ c, o.op = .call c ∧ c.callee = .builtin .recover ∧ c.args = #[] := by
  unfold isRecover at h
  cases ho : o.op <;> rw [ho] at h <;> simp only at h <;> try (cases h; done)
  rename_i c
  cases hc : c.callee <;> rw [hc] at h <;> simp only at h <;> try (cases h; done)
  rename_i b
  cases b <;> simp only at h <;> try (cases h; done)
  cases ha : c.args.toList with
  | nil => exact ⟨c, rfl, hc, Array.toList_inj.1 (by simpa using ha)⟩
  | cons x y => rw [ha] at h; cases h

theorem recover_run {c : Call} (ho : o.op = .call c) (hc : c.callee = .builtin .recover) (ha : c.args = #[]) : (execOp a.eval o).run P w = .ok .recover w := by
  simp only [execOp, ho, resolve, hc, Sem.run_bind, Sem.run_pure, Result.andThen, invoke, builtin]

theorem opsS_ok {ops : Array Oper} {Q : Exit → Act → List Frame → World → Prop} {c₀ : Frame} {cs : List Frame} (hcall : CallerSound sy G B w0 P call) : ∀ (l : List Oper) (k : Nat), ops.toList.drop k = l → ∀ (env : List CV) (loc : Loc) (st : St) (m : Option Md) (e : Ex) (env2 : List CV) (st2 : St) (m2 : Option Md) (ρ : Ren) (u : FrameMode) (a : Act) (w : World),
    (opsS P cx l).f call env loc st m = .ok e env2 st2 m2 → SR sy G cx ρ env loc a → DRel sy ρ st.dfs a.defers → WRel sy G B w0 ρ st w → MdRel sy ρ m u →
    (∀ e' a' cs' w', PostS sy G B w0 cx ρ c₀ cs e env2 st2 m2 e' a' cs' w' → Q e' a' cs' w') → wpOpsS P ops Q ((List.range ops.size).drop k) a ({ c₀ with mode := u } :: cs) w
  | [], k, hk, env, loc, st, m, e, env2, st2, m2, ρ, u, a, w, hr, hs, hd, hw, hm, hQ => by
    have hlen : ops.size ≤ k := by
      have := congrArg List.length hk
      simp at this
      omega
    rw [List.drop_of_length_le (by simpa using hlen)]
    have hr' : RS.ok .normal env st m = .ok e env2 st2 m2 := hr
    cases hr'
    exact hQ _ _ _ _ ⟨ρ, u, Ren.le_refl _, rfl, hs.drop, hd, hw, hm, rfl⟩
  | o :: r, k, hk, env, loc, st, m, e, env2, st2, m2, ρ, u, a, w, hr, hs, hd, hw, hm, hQ => by
    have hlt : k < ops.size := by
      rcases Nat.lt_or_ge k ops.size with h | h
      · exact h
      · rw [List.drop_of_length_le (by simpa using h)] at hk; cases hk
    have hop : ops[k]? = some o := by
      have := congrArg (·[0]?) hk
      simpa using this
    have hk' : ops.toList.drop (k + 1) = r := by
      have := congrArg List.tail hk
      simpa using this
    have hrange : (List.range ops.size).drop k = k :: (List.range ops.size).drop (k + 1) := by
      rw [List.drop_eq_getElem_cons (by simpa using hlt)]
      simp
    rw [hrange]
    unfold wpOpsS
    simp only [hop]
    unfold opsS at hr
    cases hg : o.guard with
    | some g => rw [hg] at hr; cases hrc : isRecover o <;> rw [hrc] at hr <;> cases hr
    | none =>
      rw [hg] at hr
      rw [if_pos (by simp [Region.wanted, hg])]
      cases hrec : isRecover o with
      | true =>
        rw [hrec] at hr
        simp only at hr
        obtain ⟨c, h1, h2, h3⟩ := isRecover_spec hrec
        rw [recover_run h1 h2 h3]
        simp only
        have go : ∀ {v : CV} {v' : Value} {m1 : Option Md} {u1 : FrameMode}, VRel sy ρ v v' → MdRel sy ρ m1 u1 →
            ((putS cx o.dst).f v env loc fun env loc => (opsS P cx r).f call env loc st m1) = .ok e env2 st2 m2 → wpOpsS P ops Q ((List.range ops.size).drop (k + 1)) (a.put o.dst v') ({ c₀ with mode := u1 } :: cs) w := fun {v v' m1 u1} hv hm1 hr1 => by
          obtain ⟨env1, loc1, hr2, hs1⟩ := putS_rel hs hv hr1
          refine opsS_ok hcall r (k + 1) hk' env1 loc1 st m1 e env2 st2 m2 ρ u1 _ w hr2 hs1 ?_ hw hm1 hQ
          have : (a.put o.dst v').defers = a.defers := by cases o.dst <;> rfl
          rw [this]; exact hd
        cases m with
        | none =>
          have hu : u = .returning := hm
          subst hu
          exact go (v := .nili) (v' := .nilIface) (m1 := none) (by simp only [VRel]) rfl hr
        | some x =>
          obtain ⟨v, q⟩ := x
          obtain ⟨v', hu, hv⟩ := hm
          simp only at hu hv
          subst hu
          cases q with
          | true => exact go (v := .nili) (v' := .nilIface) (m1 := some ⟨v, true⟩) (by simp only [VRel]) ⟨v', rfl, hv⟩ hr
          | false => exact go (v := v) (v' := v') (m1 := some ⟨v, true⟩) hv ⟨v', rfl, hv⟩ hr
      | false =>
        rw [hrec] at hr
        simp only at hr
        have hopr := op_ok (o := o) hcall hs hd hw
        generalize (opF P cx o.op).f call env loc st = rv at *
        have key : o.wp P a w (fun a' w' => wpOpsS P ops Q ((List.range ops.size).drop (k + 1)) a' ({ c₀ with mode := u } :: cs) w') (fun e' a' w' => Q e' a' ({ c₀ with mode := u } :: cs) w') := by
          cases rv with
          | err n => cases hr
          | ok v st1 =>
            simp only at hr
            refine hopr _ _ fun ρ' v' w' ds' hle hv hw' hd' => ?_
            obtain ⟨env1, loc1, hr1, hs1⟩ := putS_rel (a := { a with defers := ds' }) ((hs.mono hle).dfs ds') hv hr
            refine opsS_ok hcall r (k + 1) hk' env1 loc1 st1 m e env2 st2 m2 ρ' u _ w' hr1 hs1 ?_ hw' (hm.mono hle) fun e' a' cs' w' ⟨ρ2, u2, q1, q2, q3⟩ => hQ _ _ _ _ ⟨ρ2, u2, Ren.le_trans hle q1, q2, q3⟩
            have : (({ a with defers := ds' } : Act).put o.dst v').defers = ds' := by cases o.dst <;> rfl
            rw [this]; exact hd'
          | pan v st1 =>
            simp only at hr
            cases hr
            exact hopr _ _ fun ρ' v' w' hle hv hw' hd' => hQ _ _ _ _ ⟨ρ', u, hle, ⟨v', rfl, hv⟩, (hs.mono hle).drop, hd', hw', hm.mono hle, rfl⟩
        unfold Oper.wp at key
        split
        · rename_i w1 hrun
          rw [hrun] at key
          exact key.elim
        · exact key

theorem denS_ok (hcall : CallerSound sy G B w0 P call) (hden : ∀ c, Den sy G B w0 P cx c ((den P cx c).f call)) : ∀ (c : Code) (env : List CV) (st : St) (m : Option Md) (e : Ex) (env2 : List CV) (st2 : St) (m2 : Option Md) (ρ : Ren) (u : FrameMode) (a : Act) (w : World) (c₀ : Frame) (cs : List Frame),
    (denS P cx c).f call env st m = .ok e env2 st2 m2 → SR sy G cx ρ env .nil a → DRel sy ρ st.dfs a.defers → WRel sy G B w0 ρ st w → MdRel sy ρ m u →
    c.wpS P (PostS sy G B w0 cx ρ c₀ cs e env2 st2 m2) a ({ c₀ with mode := u } :: cs) w := by
  intro c
  -- without a recovery
  have plain : ∀ (c : Code) (env : List CV) (st : St) (m : Option Md) (e : Ex) (env2 : List CV) (st2 : St) (m2 : Option Md) (ρ : Ren) (u : FrameMode) (a : Act) (w : World) (c₀ : Frame) (cs : List Frame),
      (match (den P cx c).f call env st with | .ok e env st => RS.ok e env st m | .err n => .err n) = .ok e env2 st2 m2 → SR sy G cx ρ env .nil a → DRel sy ρ st.dfs a.defers → WRel sy G B w0 ρ st w → MdRel sy ρ m u →
      c.wpS P (PostS sy G B w0 cx ρ c₀ cs e env2 st2 m2) a ({ c₀ with mode := u } :: cs) w := by
    intro c env st m e env2 st2 m2 ρ u a w c₀ cs hr hs hd hw hm
    cases hx : (den P cx c).f call env st with
    | err n => rw [hx] at hr; cases hr
    | ok e1 env1 st1 =>
      rw [hx] at hr
      cases hr
      exact wpS_of_wp (Code.wp_mono (fun e' a' w' ⟨ρ1, q1, q2, q3, q4, q5⟩ => ⟨ρ1, u, q1, q2, q3, q4, q5, hm.mono q1, rfl⟩) (hden c env st e env2 st2 ρ a w hx hs hd hw))
  induction c with
  | seq x y ihx ihy =>
    intro env st m e env2 st2 m2 ρ u a w c₀ cs hr hs hd hw hm
    unfold denS at hr
    simp only at hr
    cases hx : (denS P cx x).f call env st m with
    | err n => rw [hx] at hr; cases hr
    | ok e1 env1 st1 m1 =>
      rw [hx] at hr
      have h1 := ihx env st m e1 env1 st1 m1 ρ u a w c₀ cs hx hs hd hw hm
      refine wpS_seq (fun b k hb hro => ?_)
      obtain ⟨e', a', cs', w', hp, harr⟩ := h1 b k hb hro
      refine ⟨e', a', cs', w', ?_, harr⟩
      obtain ⟨ρ1, u1, q1, q2, q3, q4, q5, q6, rfl⟩ := hp
      cases e1 with
      | normal =>
        simp only at hr
        have he : e' = .normal := q2
        subst he
        intro b2 k2 hb2 hro2
        obtain ⟨e3, a3, cs3, w3, ⟨ρ3, u3, p1, p2⟩, r3⟩ := ihy env1 st1 m1 e env2 st2 m2 ρ1 u1 a' w' c₀ cs hr q3 q4 q5 q6 b2 k2 hb2 hro2
        exact ⟨e3, a3, cs3, w3, ⟨ρ3, u3, Ren.le_trans q1 p1, p2⟩, r3⟩
      | exit id =>
        simp only at hr
        cases hr
        have he : e' = .exit id := q2
        subst he
        exact ⟨ρ1, u1, q1, rfl, q3, q4, q5, q6, rfl⟩
      | ret =>
        simp only at hr
        cases hr
        have he : e' = .ret := q2
        subst he
        exact ⟨ρ1, u1, q1, rfl, q3, q4, q5, q6, rfl⟩
      | panic v =>
        simp only at hr
        cases hr
        obtain ⟨v', rfl, hv⟩ := q2
        exact ⟨ρ1, u1, q1, ⟨v', rfl, hv⟩, q3, q4, q5, q6, rfl⟩
  | cond x y z ihy ihz =>
    intro env st m e env2 st2 m2 ρ u a w c₀ cs hr hs hd hw hm
    unfold denS at hr
    simp only at hr
    cases hx : (ev cx x).f env .nil <;> rw [hx] at hr <;> simp only at hr <;> try (cases hr; done)
    rename_i t
    have hc := eval_cond hs hw hx
    refine wpS_cond hc ?_
    cases t with
    | true => exact ihy env st m e env2 st2 m2 ρ u a w c₀ cs hr hs hd hw hm
    | false => exact ihz env st m e env2 st2 m2 ρ u a w c₀ cs hr hs hd hw hm
  | region id ops draw =>
    intro env st m e env2 st2 m2 ρ u a w c₀ cs hr hs hd hw hm
    unfold denS at hr
    cases draw with
    | true => exact plain _ env st m e env2 st2 m2 ρ u a w c₀ cs hr hs hd hw hm
    | false =>
      cases hany : ops.toList.any isRecover with
      | false => rw [hany] at hr; exact plain _ env st m e env2 st2 m2 ρ u a w c₀ cs hr hs hd hw hm
      | true =>
        rw [hany] at hr
        refine wpS_region ?_
        have := opsS_ok (ops := ops) (Q := PostS sy G B w0 cx ρ c₀ cs e env2 st2 m2) (c₀ := c₀) (cs := cs) hcall ops.toList 0 rfl env .nil st m e env2 st2 m2 ρ u a w hr hs hd hw hm fun _ _ _ _ h => h
        simpa using this
  | _ =>
    intro env st m e env2 st2 m2 ρ u a w c₀ cs hr hs hd hw hm
    unfold denS at hr
    exact plain _ env st m e env2 st2 m2 ρ u a w c₀ cs hr hs hd hw hm
end
end Go.Proofs.YtbmbjaogcmokoaaGreatDoorX

namespace Go.Proofs.YtbmbjaogcmokoaaGreatDoorX
open Go Go.RowKit
set_option linter.unusedVariables false

section
variable {sy : Sy} {G : Nat} {B : Kp} {w0 : World} {P : Program} {ρ ρ' : Ren} {cx : Cx} {env env' : List CV} {loc : Loc} {a : Act} {st st' : St} {w w' : World} {o : Oper} {call : Caller} {ex : Ex}

/-- operands' values laid into slots -/
theorem initEnv_nth : ∀ (vars : List Nat) (args : List CV) (t k : Nat), pos vars t = some k → nth (initEnv vars args) k = args.getD t .unk
  | [], args, t, k, h => by cases h
  | u :: r, args, t, k, h => by
    unfold pos at h
    cases e : Nat.beq u t with
    | true =>
      rw [e] at h
      simp only [cond_true] at h
      cases h
      have : u = t := Nat.eq_of_beq_eq_true e
      subst this
      rfl
    | false =>
      rw [e] at h
      simp only [cond_false] at h
      cases hp : pos r t with
      | none => rw [hp] at h; cases h
      | some j =>
        rw [hp] at h
        simp only [Option.some.injEq] at h
        subst h
        exact initEnv_nth r args t j hp

theorem init_sr {args : List CV} {args' : List Value} {nt : Nat} {vars : List Nat} (h : VRels sy ρ args args') (hn : args.length ≤ nt) :
    SR sy G ⟨vars, nt, G⟩ ρ (initEnv vars args) .nil { tmps := args'.toArray ++ Array.replicate (nt - args'.toArray.size) undef, defers := [] } := by
  have hl := h.length
  refine ⟨rfl, by simp; omega, fun t => ?_⟩
  unfold look
  cases hp : pos vars t with
  | none => show VRel sy ρ .unk _; simp [VRel]
  | some k =>
    simp only
    rw [initEnv_nth vars args t k hp]
    cases hg : args[t]? with
    | none => simp [List.getD, hg, VRel]
    | some v =>
      obtain ⟨v', h1, h2⟩ := h.get t v hg
      have hlt : t < args'.length := by
        rcases Nat.lt_or_ge t args'.length with q | q
        · exact q
        · rw [List.getElem?_eq_none q] at h1; cases h1
      have e1 : args.getD t .unk = v := by simp [List.getD, hg]
      have e2 : (args'.toArray ++ Array.replicate (nt - args'.toArray.size) undef).getD t undef = v' := by
        have : (args'.toArray ++ Array.replicate (nt - args'.toArray.size) undef)[t]? = some v' := by
          rw [Array.getElem?_append_left (by simpa using hlt)]
          simpa using h1
        simp only [Array.getD_eq_getD_getElem?, this, Option.getD_some]
      rw [e1, e2]
      exact h2

/-! ## Results -/
def resRun (tmps : Array Value) : ResultVar → Sem Value
  | .tmp t => pure (tmps.getD t undef)
  | .cell a t => do loadVar t (← asAddr (tmps.getD a undef))

theorem resOne_rel {r : ResultVar} {K : CV → RV} {rv : RV} (hs : SR sy G cx ρ env .nil a) (hw : WRel sy G B w0 ρ st w) (hr : (resOne P cx r).f env st K = rv) :
    (∃ k, rv = .err k) ∨ ∃ v v', K v = rv ∧ VRel sy ρ v v' ∧ (resRun a.tmps r).run P w = .ok v' w := by
  unfold resOne at hr
  cases r with
  | tmp t =>
    simp only [evTmpAt_eq] at hr
    exact .inr ⟨_, _, hr, hs.slot t, rfl⟩
  | cell t ty =>
    simp only at hr
    cases hg : aggOf P ty with
    | none => rw [hg] at hr; exact .inl ⟨_, hr.symm⟩
    | some g =>
      cases hn : szOf P ty with
      | none => rw [hg, hn] at hr; exact .inl ⟨_, hr.symm⟩
      | some n =>
        rw [hg, hn] at hr
        simp only [evTmpAt_eq] at hr
        have hsl := hs.slot t
        generalize look cx env .nil t = v at hsl hr
        cases v <;> simp only at hr <;> try exact .inl ⟨_, hr.symm⟩
        rename_i b ofs
        simp only [VRel] at hsl
        obtain ⟨i, hi, e⟩ := hsl
        rcases run_loadVar hg hn hw hi hr with h | ⟨v, v', h1, h2, h3⟩
        · exact .inl h
        · exact .inr ⟨v, v', h1, h2, by simp only [resRun, Sem.run_bind, e, asAddr, Sem.run_pure, Result.andThen, h3]⟩
theorem resL_rel (hs : SR sy G cx ρ env .nil a) (hw : WRel sy G B w0 ρ st w) : ∀ (l : List ResultVar) {K : List CV → RV} {rv : RV}, (resL P cx l).f env st K = rv →
    (∃ k, rv = .err k) ∨ ∃ vs vs', K vs = rv ∧ vs.length = l.length ∧ VRels sy ρ vs vs' ∧ (l.mapM (resRun a.tmps)).run P w = .ok vs' w
  | [], K, rv, hr => .inr ⟨[], [], hr, rfl, VRels.nil, by simp⟩
  | r :: l, K, rv, hr => by
    have hr' : (resOne P cx r).f env st (fun v => (resL P cx l).f env st fun vs => K (v :: vs)) = rv := hr
    rcases resOne_rel hs hw hr' with h | ⟨v, v', h1, h2, h3⟩
    · exact .inl h
    · rcases resL_rel hs hw l h1 with h | ⟨vs, vs', k1, k0, k2, k3⟩
      · exact .inl h
      · exact .inr ⟨v :: vs, v' :: vs', k1, by simp [k0], VRels.cons h2 k2, by simp [List.mapM_cons, h3, k3]⟩
theorem results_run {fn : Func} {tmps : Array Value} {vs : List Value} (h : (fn.results.toList.mapM (resRun tmps)).run P w = .ok vs w) :
    (results fn tmps).run P w = .ok (if h : vs.toArray.size = 1 then vs.toArray[0] else .tuple vs.toArray) w := by
  have e : results fn tmps = (do
      let vs ← fn.results.mapM (resRun tmps)
      pure (if h : vs.size = 1 then vs[0] else .tuple vs)) := by
    unfold results
    congr 1
  rw [e, Array.mapM_eq_mapM_toList]
  simp [h]
theorem res_ok {fn : Func} {rv : RV} (hs : SR sy G cx ρ env .nil a) (hw : WRel sy G B w0 ρ st w) (hr : (resF P cx fn.results.toList).f env st = rv) :
    (∃ k, rv = .err k) ∨ ∃ v v', rv = .ok v st ∧ VRel sy ρ v v' ∧ (results fn a.tmps).run P w = .ok v' w := by
  generalize hl : fn.results.toList = l at hr
  have many : (resL P cx l).f env st (fun vs => .ok (.tup vs) st) = rv → l.length ≠ 1 → (∃ k, rv = .err k) ∨ ∃ v v', rv = .ok v st ∧ VRel sy ρ v v' ∧ (results fn a.tmps).run P w = .ok v' w := by
    intro h hne
    rcases resL_rel hs hw l h with h | ⟨vs, vs', h1, h0, h2, h3⟩
    · exact .inl h
    · refine .inr ⟨_, .tuple vs'.toArray, h1.symm, by simp only [VRel]; exact ⟨vs', rfl, h2⟩, ?_⟩
      rw [results_run (by rw [hl]; exact h3)]
      have hlen : vs'.length = l.length := h2.length.trans h0
      rw [dif_neg (by simpa [hlen] using hne)]
  match l, hr, many with
  | [], hr, many => exact many hr (by simp)
  | [r], hr, _ =>
    rcases resOne_rel hs hw hr with h | ⟨v, v', h1, h2, h3⟩
    · exact .inl h
    · refine .inr ⟨v, v', h1.symm, h2, ?_⟩
      rw [results_run (vs := [v']) (by rw [hl]; simp [List.mapM_cons, h3])]
      simp
  | r :: r2 :: l, hr, many => exact many hr (by simp)

/-! ## Calls -/
def DrawOk (sy : Sy) (G : Nat) (B : Kp) (w0 : World) (P : Program) : Prop :=
  ∀ (cx : Cx) (call : Caller), (∀ B w0, CallerSound sy G B w0 P call) → ∀ (id : Nat) (ops : Array Oper), Den sy G B w0 P cx (.region id ops true) ((den P cx (.region id ops true)).f call)

theorem resOne_keep {r : ResultVar} {K : CV → RV} {x : RV} (h : (resOne P cx r).f env st K = x) : (∃ k, x = .err k) ∨ ∃ v, K v = x := by
  unfold resOne at h
  cases r with
  | tmp t => exact .inr ⟨_, h⟩
  | cell t ty =>
    simp only at h
    split at h
    · simp only at h
      split at h
      · rename_i g n _ _ b of _
        unfold loadAt at h
        split at h
        · split at h
          · split at h
            · exact .inr ⟨_, h⟩
            · exact .inl ⟨_, h.symm⟩
          · split at h
            · exact .inr ⟨_, h⟩
            · exact .inl ⟨_, h.symm⟩
        · exact .inl ⟨_, h.symm⟩
      · exact .inl ⟨_, h.symm⟩
    · exact .inl ⟨_, h.symm⟩
theorem resL_keep : ∀ {l : List ResultVar} {K : List CV → RV} {x : RV}, (resL P cx l).f env st K = x → (∃ k, x = .err k) ∨ ∃ v, K v = x
  | [], K, x, h => .inr ⟨[], h⟩
  | r :: l, K, x, h => by
    have h' : (resOne P cx r).f env st (fun v => (resL P cx l).f env st fun vs => K (v :: vs)) = x := h
    rcases resOne_keep h' with h | ⟨v, h⟩
    · exact .inl h
    · rcases resL_keep h with h | ⟨vs, h⟩
      · exact .inl h
      · exact .inr ⟨_, h⟩
theorem resF_keep {l : List ResultVar} {x : RV} (h : (resF P cx l).f env st = x) : (∃ k, x = .err k) ∨ ∃ v, x = .ok v st := by
  unfold resF at h
  split at h
  · rcases resOne_keep h with h | ⟨v, h⟩
    · exact .inl h
    · exact .inr ⟨v, h.symm⟩
  · rcases resL_keep h with h | ⟨v, h⟩
    · exact .inl h
    · exact .inr ⟨_, h.symm⟩

/-- what a call's answer says of its ending -/
def RetR (sy : Sy) (G : Nat) (B : Kp) (w0 : World) (ρ : Ren) : RV → Ending → World → Prop
  | .err _, _, _ => True
  | .ok v st, e, w => ∃ ρ' v', e = .returned v' ∧ ρ.le ρ' ∧ VRel sy ρ' v v' ∧ WRel sy G B w0 ρ' st w
  | .pan v st, e, w => ∃ ρ' v', e = .panicked [{ v := v', recovered := false }] ∧ ρ.le ρ' ∧ VRel sy ρ' v v' ∧ WRel sy G B w0 ρ' st w

theorem settle_ok {m : Option Md} {u : FrameMode} (h : MdRel sy ρ m u) : MdRel sy ρ (openM (settleM m)) (settle u) := by
  cases m with
  | none =>
    have : u = .returning := h
    subst this
    exact rfl
  | some x =>
    obtain ⟨v, r⟩ := x
    obtain ⟨v', rfl, hv⟩ := h
    cases r with
    | true => exact rfl
    | false => exact ⟨v', rfl, hv⟩

theorem funD_ok (hdraw : DrawOk sy G B w0 P) (hall : ∀ B w0, CallerSound sy G B w0 P call) (hint : Nat → List Nat) {f : Nat} {args : List CV} {args' : List Value} {m m' : Option CV} {h h' : T Obj} {n n' : Nat} {u : FrameMode}
    (hr : (funD P G hint f).f call args m h n = .ok m' h' n') (hargs : VRels sy ρ args args') (hw : WRel sy G B w0 ρ ⟨h, n, []⟩ w) (hm : MdRel sy ρ (openM m) u) :
    enters P f = true ∧ CallsD P f args'.toArray u w fun e u' w' => ∃ v ρ', e = .returned v ∧ ρ.le ρ' ∧ WRel sy G B w0 ρ' ⟨h', n', []⟩ w' ∧ MdRel sy ρ' (openM m') (settle u') := by
  unfold funD at hr
  cases hen : enters P f with
  | false => rw [hen] at hr; cases hr
  | true =>
    refine ⟨rfl, ?_⟩
    rw [hen] at hr
    cases hf : P.funcs[f]? with
    | none => rw [hf] at hr; cases hr
    | some fn =>
      rw [hf] at hr
      simp only at hr
      cases hb : fn.body with
      | none => rw [hb] at hr; cases hr
      | some c =>
        rw [hb] at hr
        simp only at hr
        cases hle : Nat.ble (len args) fn.ntmps with
        | false => rw [hle] at hr; cases hr
        | true =>
          rw [hle] at hr
          simp only [cond_true] at hr
          have hn : args.length ≤ fn.ntmps := by rw [← len_eq]; simpa [Nat.ble_eq] using hle
          have hsr := init_sr (G := G) (vars := hint f) hargs hn
          have hden := den_ok (cx := ⟨hint f, fn.ntmps, G⟩) hall (hdraw _ _ hall)
          cases hrun : (denS P ⟨hint f, fn.ntmps, G⟩ c).f call (initEnv (hint f) args) ⟨h, n, []⟩ (openM m) with
          | err k => rw [hrun] at hr; cases hr
          | ok e env1 st1 m1 =>
            rw [hrun] at hr
            obtain ⟨h1, n1, ds1⟩ := st1
            simp only [endD] at hr
            cases ds1 with
            | cons x y => cases hr
            | nil =>
              refine callsD_of_wpS hf hb fun c₀ cs hu => ?_
              subst hu
              have hS := denS_ok (hall B w0) hden c _ _ _ _ _ _ _ ρ c₀.mode _ w c₀ cs hrun hsr rfl hw hm
              intro b k hb1 hb2
              obtain ⟨e', a', cs', w', ⟨ρ1, u1, q1, q2, q3, q4, q5, q6, rfl⟩, harr⟩ := hS b k hb1 hb2
              refine ⟨e', a', _, w', ?_, harr⟩
              have hdf : a'.defers = [] := q4
              have fin : ∀ {x : RV}, (resF P ⟨hint f, fn.ntmps, G⟩ fn.results.toList).f env1 ⟨h1, n1, []⟩ = x → (match x with | .ok _ _ => RD.ok (settleM m1) h1 n1 | _ => .err 206) = .ok m' h' n' ∨ (match x with | .ok _ _ => RD.ok (settleM m1) h1 n1 | _ => .err 207) = .ok m' h' n' →
                  ∃ v, (results fn a'.tmps).run P w' = .ok v w' ∧ ∃ v0 ρ', Ending.returned v = .returned v0 ∧ ρ.le ρ' ∧ WRel sy G B w0 ρ' ⟨h', n', []⟩ w' ∧ MdRel sy ρ' (openM m') (settle u1) := fun {x} hx hor => by
                rcases res_ok q3 q5 hx with ⟨k, rfl⟩ | ⟨v, v', rfl, _, hres⟩
                · rcases hor with h | h <;> cases h
                · refine ⟨v', hres, v', ρ1, rfl, q1, ?_⟩
                  rcases hor with h | h <;> (cases h; exact ⟨q5, settle_ok q6⟩)
              cases e with
              | normal =>
                have he : e' = .normal := q2
                subst he
                obtain ⟨v, r1, r2⟩ := fin rfl (.inl hr)
                exact ⟨hdf, u1, rfl, v, r1, r2⟩
              | ret =>
                have he : e' = .ret := q2
                subst he
                obtain ⟨v, r1, r2⟩ := fin rfl (.inr hr)
                exact ⟨hdf, u1, rfl, v, r1, r2⟩
              | exit id => cases hr
              | panic v => cases hr

theorem leave_ok (hdraw : DrawOk sy G B w0 P) (hall : ∀ B w0, CallerSound sy G B w0 P call) (hint : Nat → List Nat) {fn : Func} {d : List Dfr} {tmps : Array Value} {r : RV} (hne : ∀ k, r ≠ .err k) : ∀ (ds : List Dfr) (ds' : List Deferred) (m : Option CV) (u : FrameMode) (h : T Obj) (n : Nat) (ρ1 : Ren) (w : World),
    leaveF P G hint cx fn.results.toList call d env ds m h n = r → ρ.le ρ1 → DRel sy ρ1 ds ds' → WRel sy G B w0 ρ1 ⟨h, n, []⟩ w → MdRel sy ρ1 (openM m) u → SR sy G cx ρ1 env .nil { tmps := tmps, defers := [] } → LeavesM P fn tmps (RetR sy G B w0 ρ r) ds' u w
  | [], ds', m, u, h, n, ρ1, w, hr, hle, hd, hw, hm, hs => by
    have : ds' = [] := hd
    subst this
    cases m with
    | none =>
      have hu : u = .returning := hm
      subst hu
      have hr' : (resF P cx fn.results.toList).f env ⟨h, n, d⟩ = r := hr
      rcases res_ok hs hw.dfs hr' with ⟨k, hk⟩ | ⟨v, v', rfl, hv, hres⟩
      · exact absurd hk (hne k)
      · exact ⟨v', hres, ρ1, v', rfl, hle, hv, hw.dfs⟩
    | some v =>
      obtain ⟨v', hu, hv⟩ := hm
      subst hu
      have hr' : RV.pan v ⟨h, n, d⟩ = r := hr
      subst hr'
      exact ⟨ρ1, v', rfl, hle, hv, hw.dfs⟩
  | x :: ds, ds', m, u, h, n, ρ1, w, hr, hle, hd, hw, hm, hs => by
    simp only [DRel] at hd
    obtain ⟨y, s, rfl, hone, hd2⟩ := hd
    have hr' : (match oneD P G hint call x m h n with
      | .ok m h n => leaveF P G hint cx fn.results.toList call d env ds m h n
      | .err n => .err n) = r := hr
    obtain ⟨xf, xa⟩ := x
    have hrun : u ≠ .run := by
      cases m with
      | none => have hu : u = .returning := hm; rw [hu]; intro h; cases h
      | some v => obtain ⟨v', hu, _⟩ := hm; rw [hu]; intro h; cases h
    rcases hone with ⟨b, i, e1, e2, rfl⟩ | ⟨g, fi, ca, fi', ca', as', e1, e2, e3, e4, rfl⟩
    · simp only at e1
      subst e1
      have ho : oneD P G hint call ⟨.ptr b 0, xa⟩ m h n = (match h.get b with
        | some ob => match ob with
          | .coll => .ok m (T.set h .dead b) n
          | _ => .err 215
        | none => .err 216) := rfl
      rw [ho] at hr'
      cases hg : h.get b with
      | none => rw [hg] at hr'; exact absurd hr'.symm (hne _)
      | some ob =>
        rw [hg] at hr'
        cases ob <;> simp only at hr' <;> try exact absurd hr'.symm (hne _)
        obtain ⟨i', k1, k2, k3, k4⟩ := hw.obj b _ hg
        rw [e2] at k1; cases k1
        have hw1 : WRel sy G B w0 ρ1 ⟨T.set h .dead b, n, []⟩ { w with heap := w.heap.setIfInBounds i.blk (.deferred none) } := hw.update hg rfl e2 k2 (setObj_below k2) (fun k hk => setObj_ne hk) trivial
        refine ⟨hrun, .inl ⟨i.blk, _, rfl, ?_, leave_ok hdraw hall hint hne ds s m u (T.set h .dead b) n ρ1 _ hr' hle hd2 hw1 hm hs⟩⟩
        simp only [Instr.takeDeferred, Sem.run_bind, run_getObj k4 (by simp), Result.andThen, run_setObj k4 (by simp), Sem.run_pure]
    simp only at e1 e4
    subst e1
    have ho : oneD P G hint call ⟨.func (.func g) fi ca, xa⟩ m h n = (funD P G hint g).f call (fi ++ xa ++ ca) m h n := rfl
    rw [ho] at hr'
    cases hx : (funD P G hint g).f call (fi ++ xa ++ ca) m h n with
    | err k => rw [hx] at hr'; exact absurd hr'.symm (hne k)
    | ok m1 h1 n1 =>
      rw [hx] at hr'
      obtain ⟨hen, hcd⟩ := funD_ok hdraw hall hint hx ((e2.append e4).append e3) hw hm
      refine ⟨hrun, .inr ⟨.func g, _, g, (fi' ++ as' ++ ca').toArray, rfl, ?_, ?_⟩⟩
      · simp only [invoke]
        rw [enters_run hen]
        congr 2
        simp
      · intro c cs hc
        obtain ⟨e, u', w', fr, ⟨v, ρ2, rfl, q1, q2, q3⟩, hrest⟩ := hcd c cs hc
        exact ⟨_, u', w', fr, leave_ok hdraw hall hint hne ds s m1 (settle u') h1 n1 ρ2 w' hr' (Ren.le_trans hle q1) (hd2.mono q1) q2 q3 (hs.mono q1), hrest⟩

theorem leaveF_dfs {fn : Func} {hint : Nat → List Nat} {d : List Dfr} {v : CV} {st' : St} : ∀ (ds : List Dfr) (m : Option CV) (h : T Obj) (n : Nat), (leaveF P G hint cx fn.results.toList call d env ds m h n = .ok v st' ∨ leaveF P G hint cx fn.results.toList call d env ds m h n = .pan v st') → st'.dfs = d
  | [], m, h, n, hr => by
    cases m with
    | none =>
      have hr' : (resF P cx fn.results.toList).f env ⟨h, n, d⟩ = .ok v st' ∨ (resF P cx fn.results.toList).f env ⟨h, n, d⟩ = .pan v st' := hr
      rcases resF_keep (P := P) (cx := cx) (env := env) (st := ⟨h, n, d⟩) (l := fn.results.toList) rfl with ⟨k, hk⟩ | ⟨x, hx⟩
      · rw [hk] at hr'; rcases hr' with h | h <;> cases h
      · rw [hx] at hr'; rcases hr' with h | h <;> cases h; rfl
    | some x =>
      have hr' : RV.pan x ⟨h, n, d⟩ = .ok v st' ∨ RV.pan x ⟨h, n, d⟩ = .pan v st' := hr
      rcases hr' with h | h <;> cases h
      rfl
  | x :: ds, m, h, n, hr => by
    have hr' : (match oneD P G hint call x m h n with
      | .ok m h n => leaveF P G hint cx fn.results.toList call d env ds m h n
      | .err n => .err n) = .ok v st' ∨ (match oneD P G hint call x m h n with
      | .ok m h n => leaveF P G hint cx fn.results.toList call d env ds m h n
      | .err n => .err n) = .pan v st' := hr
    cases hx : oneD P G hint call x m h n with
    | err k => rw [hx] at hr'; rcases hr' with h | h <;> cases h
    | ok m1 h1 n1 =>
      rw [hx] at hr'
      exact leaveF_dfs ds m1 h1 n1 hr'

theorem fun_ok (hdraw : DrawOk sy G B w0 P) (hall : ∀ B w0, CallerSound sy G B w0 P call) (hint : Nat → List Nat) : CallerSound sy G B w0 P (fun f args st => (funF P G hint f).f call args st) := by
  intro f args st ρ w args' hargs hw hen
  simp only
  generalize hr : (funF P G hint f).f call args st = r
  unfold funF at hr
  cases hf : P.funcs[f]? with
  | none => rw [hf] at hr; subst hr; exact trivial
  | some fn =>
    rw [hf] at hr
    simp only at hr
    cases hb : fn.body with
    | none => rw [hb] at hr; subst hr; exact trivial
    | some c =>
      rw [hb] at hr
      obtain ⟨h, n, d⟩ := st
      simp only at hr
      cases hle : Nat.ble (len args) fn.ntmps with
      | false => rw [hle] at hr; subst hr; exact trivial
      | true =>
        rw [hle] at hr
        simp only [cond_true] at hr
        have hn : args.length ≤ fn.ntmps := by rw [← len_eq]; simpa [Nat.ble_eq] using hle
        have hsr := init_sr (G := G) (vars := hint f) hargs hn
        have hden := den_ok (cx := ⟨hint f, fn.ntmps, G⟩) hall (hdraw _ _ hall) c
        cases hrun : (den P ⟨hint f, fn.ntmps, G⟩ c).f call (initEnv (hint f) args) ⟨h, n, []⟩ with
        | err k => rw [hrun] at hr; simp only [endF] at hr; subst hr; exact trivial
        | ok e env1 st1 =>
          rw [hrun] at hr
          have hwp := hden _ _ e env1 st1 ρ _ w hrun hsr (by exact rfl) hw.dfs
          obtain ⟨h1, n1, d1⟩ := st1
          have main : (∀ k, r ≠ .err k) → Calls P f args'.toArray w (RetR sy G B w0 ρ r) := fun hne => by
            refine calls_of_wp_marks hf hb (Code.wp_mono (fun e' a' w' hp => ?_) hwp)
            obtain ⟨ρ1, hle1, hex, hs1, hd1, hw1⟩ := hp
            have hs2 : SR sy G ⟨hint f, fn.ntmps, G⟩ ρ1 env1 .nil { tmps := a'.tmps, defers := [] } := ⟨hs1.ng, hs1.size, hs1.slot⟩
            cases e with
            | normal =>
              have he : e' = .normal := hex
              subst he
              exact leave_ok hdraw hall hint hne d1 a'.defers none .returning h1 n1 ρ1 w' hr hle1 hd1 hw1.dfs rfl hs2
            | ret =>
              have he : e' = .ret := hex
              subst he
              exact leave_ok hdraw hall hint hne d1 a'.defers none .returning h1 n1 ρ1 w' hr hle1 hd1 hw1.dfs rfl hs2
            | exit id => simp only [endF] at hr; exact absurd hr.symm (hne _)
            | panic v =>
              obtain ⟨v', rfl, hv⟩ := hex
              exact leave_ok hdraw hall hint hne d1 a'.defers (some v) (.panicking [⟨v', false, false⟩]) h1 n1 ρ1 w' hr hle1 hd1 hw1.dfs ⟨v', rfl, hv⟩ hs2
          have hdf : ∀ v st', (r = .ok v st' ∨ r = .pan v st') → st'.dfs = d := fun v st' hor => by
            cases e with
            | normal => exact leaveF_dfs d1 none h1 n1 (by have hr' : leaveF P G hint ⟨hint f, fn.ntmps, G⟩ fn.results.toList call d env1 d1 none h1 n1 = r := hr; rw [hr']; exact hor)
            | ret => exact leaveF_dfs d1 none h1 n1 (by have hr' : leaveF P G hint ⟨hint f, fn.ntmps, G⟩ fn.results.toList call d env1 d1 none h1 n1 = r := hr; rw [hr']; exact hor)
            | exit id => simp only [endF] at hr; rcases hor with h | h <;> (rw [h] at hr; cases hr)
            | panic v => exact leaveF_dfs d1 (some v) h1 n1 (by have hr' : leaveF P G hint ⟨hint f, fn.ntmps, G⟩ fn.results.toList call d env1 d1 (some v) h1 n1 = r := hr; rw [hr']; exact hor)
          cases r with
          | err k => exact trivial
          | ok v st' => exact ⟨hdf v st' (.inl rfl), main fun k h => by cases h⟩
          | pan v st' => exact ⟨hdf v st' (.inr rfl), main fun k h => by cases h⟩

theorem run_ok (hdraw : ∀ B w0, DrawOk sy G B w0 P) (hint : Nat → List Nat) : ∀ n B w0, CallerSound sy G B w0 P (run P G hint n)
  | 0 => fun B w0 f args st ρ w args' _ _ _ => trivial
  | n + 1 => fun B w0 => fun_ok (hdraw B w0) (run_ok hdraw hint n) hint
end
end Go.Proofs.YtbmbjaogcmokoaaGreatDoorX

namespace Go.Proofs.YtbmbjaogcmokoaaGreatDoorX
open Go Go.RowKit
set_option linter.unusedVariables false

section
variable {sy : Sy} {G : Nat} {B : Kp} {w0 : World} {P : Program} {ρ : Ren} {st : St} {w w' : World} {call : Caller}

/-- the known answers are the functions' own: they change no memory that was there -/
def OrcOk (P : Program) (orc : Orc) : Prop := ∀ f g, orc f = some g → ∀ args v, g.f args = some v → ∀ (sy : Sy) (ρ : Ren) (args' : List Value) (w : World), VRels sy ρ args args' →
  Calls P f args'.toArray w fun e w' => ∃ v', e = .returned v' ∧ VRel sy ρ v v' ∧ Below w.heap.size w w'

theorem runO_ok (hdraw : ∀ B w0, DrawOk sy G B w0 P) (hint : Nat → List Nat) {orc : Orc} (ho : OrcOk P orc) : ∀ n B w0, CallerSound sy G B w0 P (runO P G hint orc n)
  | 0 => fun B w0 f args st ρ w args' _ _ _ => trivial
  | n + 1 => fun B w0 f args st ρ w args' hargs hw hen => by
    have e : runO P G hint orc (n + 1) f args st = (match orc f with
      | some g => match g.f args with
        | some v => .ok v st
        | none => (funF P G hint f).f (runO P G hint orc n) args st
      | none => (funF P G hint f).f (runO P G hint orc n) args st) := rfl
    rw [e]
    cases hf : orc f with
    | none => exact fun_ok (hdraw B w0) (runO_ok hdraw hint ho n) hint f args st ρ w args' hargs hw hen
    | some g =>
      simp only
      cases hv : g.f args with
      | none => exact fun_ok (hdraw B w0) (runO_ok hdraw hint ho n) hint f args st ρ w args' hargs hw hen
      | some v =>
        refine ⟨rfl, (ho f g hf args v hv sy ρ args' w hargs).mono fun e w' ⟨v', he, hr, hb⟩ => ⟨ρ, v', he, Ren.le_refl _, hr, hw.grown hb⟩⟩
end
end Go.Proofs.YtbmbjaogcmokoaaGreatDoorX

namespace Go.Proofs.YtbmbjaogcmokoaaGreatDoorX
open Go Go.RowKit
set_option linter.unusedVariables false

section
variable {P : Program} {cx : Cx} {call : Caller} {env env' : List CV} {loc loc' : Loc} {st st' : St} {v : CV}

/-! ## What an operation looks at -/
theorem evs_congr {l : List Operand} (h : ∀ x ∈ l, (ev cx x).f env loc = (ev cx x).f env' loc') : (evs cx l).f env loc = (evs cx l).f env' loc' := by
  induction l with
  | nil => rfl
  | cons x r ih =>
    show (ev cx x).f env loc :: (evs cx r).f env loc = (ev cx x).f env' loc' :: (evs cx r).f env' loc'
    rw [h x (by simp), ih fun y hy => h y (by simp [hy])]
theorem fill_congr {place : Nat → Option (Nat × Nat)} {K : List CV → RV} : ∀ (parts : List (Nat × Operand)) (size : Nat) (cs : List CV), (∀ p ∈ parts, (ev cx p.2).f env loc = (ev cx p.2).f env' loc') →
    (fillF place cx parts size).f cs env loc K = (fillF place cx parts size).f cs env' loc' K
  | [], size, cs, h => rfl
  | (i, x) :: r, size, cs, h => by
    have hx := h (i, x) (by simp)
    simp only at hx
    unfold fillF
    cases hp : place i with
    | none => rfl
    | some on =>
      obtain ⟨off, n⟩ := on
      simp only
      cases Nat.ble (Nat.add off n) size with
      | false => rfl
      | true =>
        simp only [cond_true, hx]
        generalize (Nat.beq (len (cellsOf ((ev cx x).f env' loc'))) n && (cellsOf ((ev cx x).f env' loc')).all oneCell) = q
        cases q with
        | false => rfl
        | true => exact fill_congr r size _ fun p hp => h p (by simp [hp])
theorem optInt_congr {x : Option Operand} {d : Nat} {K K' : Nat → RV} (h : ∀ y, x = some y → (ev cx y).f env loc = (ev cx y).f env' loc') (hK : K = K') : (optInt cx x).f env loc d K = (optInt cx x).f env' loc' d K' := by
  subst hK
  cases x with
  | none => rfl
  | some y =>
    show intAt ((ev cx y).f env loc) K = intAt ((ev cx y).f env' loc') K
    rw [h y rfl]
theorem binAny_congr {kd : Nat} {lit : Bool} {es : Option (List (Nat × Nat))} {op : BinOp} {u : CV} {y : Ev} (h : y.f env loc = y.f env' loc') : binAny kd lit es op u y env loc st = binAny kd lit es op u y env' loc' st := by
  unfold binAny
  cases u <;> simp only [h]

theorem op_congr (op : Op) (h : ∀ x ∈ op.operands.toList, (ev cx x).f env loc = (ev cx x).f env' loc') : (opF P cx op).f call env loc st = (opF P cx op).f call env' loc' st := by
  cases op <;> simp only [opF] <;> try rfl
  case move x => simp only [oMove, h x (by simp [Op.operands])]
  case assign x => simp only [oMove, h x (by simp [Op.operands])]
  case pick c a b => simp only [oPick, h c (by simp [Op.operands]), h a (by simp [Op.operands]), h b (by simp [Op.operands])]
  case box t x =>
    unfold oBox
    split
    · simp only [h x (by simp [Op.operands])]
    · rfl
  case alloc t =>
    unfold oAlloc
    split <;> rfl
  case build t parts =>
    have hp : ∀ p ∈ parts.toList, (ev cx p.2).f env loc = (ev cx p.2).f env' loc' := fun p hp => h p.2 (by simp [Op.operands]; exact ⟨p.1, by simpa using hp⟩)
    unfold oBuild
    split
    · split
      · split
        · unfold buildF; exact fill_congr _ _ _ hp
        · rfl
      · split
        · unfold buildF; exact fill_congr _ _ _ hp
        · rfl
      · rfl
    · rfl
  case buildSlice t n parts =>
    have hp : ∀ p ∈ parts.toList, (ev cx p.2).f env loc = (ev cx p.2).f env' loc' := fun p hp => h p.2 (by simp [Op.operands]; exact ⟨p.1, by simpa using hp⟩)
    unfold oBuildSlice
    split
    · split
      · rename_i es z _ _
        cases (Nat.ble (Nat.mul n es) 16777216 && Nat.beq (len (cellsOf z)) es) with
        | false => rfl
        | true => simp only [cond_true]; unfold buildSliceF; exact fill_congr _ _ _ hp
      · rfl
    · rfl
  case load t a =>
    unfold oLoad
    split
    · simp only [h a (by simp [Op.operands])]
    · rfl
  case store t a x =>
    unfold oStore
    split
    · simp only [h a (by simp [Op.operands]), h x (by simp [Op.operands])]
    · rfl
  case nilCheck x => simp only [oNilCheck, h x (by simp [Op.operands])]
  case binOp op t x y t2 =>
    unfold oBinOp
    split
    · simp only [h x (by simp [Op.operands]), h y (by simp [Op.operands])]
    · simp only [h x (by simp [Op.operands])]
      exact binAny_congr (h y (by simp [Op.operands]))
  case unOp op t x =>
    unfold oUnOp
    split
    · simp only [h x (by simp [Op.operands])]
    · simp only [h x (by simp [Op.operands])]
    · rfl
  case convert s t x =>
    unfold oConvert
    split
    · split
      · simp only [h x (by simp [Op.operands])]
      · split
        · split
          · simp only [h x (by simp [Op.operands])]
          · rfl
        · simp only [h x (by simp [Op.operands])]
      · split
        · simp only [h x (by simp [Op.operands])]
        · rfl
      · split
        · split
          · rfl
          · simp only [h x (by simp [Op.operands])]
        · rfl
      · split
        · simp only [h x (by simp [Op.operands])]
        · rfl
      · rfl
    · rfl
  case slice t x lo hi mx =>
    unfold oSlice
    split
    · split
      · simp only [h x (by simp [Op.operands])]
        congr 1
        funext l n
        refine optInt_congr (fun y hy => h y (by simp [Op.operands, hy])) ?_
        funext q
        exact optInt_congr (fun y hy => h y (by simp [Op.operands, hy])) rfl
      · rfl
    · rfl
  case fieldAddr t x f =>
    unfold oFieldAddr
    split
    · simp only [h x (by simp [Op.operands])]
    · rfl
  case indexAddr t x i =>
    unfold oIndexAddr
    split
    · split
      · split
        · simp only [h x (by simp [Op.operands]), h i (by simp [Op.operands])]
        · rfl
      · split
        · simp only [h x (by simp [Op.operands]), h i (by simp [Op.operands])]
        · rfl
      · rfl
    · rfl
  case index t x i =>
    unfold oIndex
    split
    · split
      · simp only [h x (by simp [Op.operands]), h i (by simp [Op.operands])]
      · rfl
    · rfl
  case range t x =>
    unfold oRange
    split
    · split
      · simp only [h x (by simp [Op.operands])]
      · simp only [h x (by simp [Op.operands])]
      · rfl
    · rfl
  case makeSlice t x y =>
    unfold oMakeSlice
    split
    · split
      · rename_i es by_ z _ _ _
        cases (Nat.beq (len (cellsOf z)) es) with
        | false => rfl
        | true => simp only [cond_true, h x (by simp [Op.operands]), h y (by simp [Op.operands])]
      · rfl
    · rfl
  case next x s =>
    unfold oNext
    split
    · simp only [h x (by simp [Op.operands])]
    · simp only [h x (by simp [Op.operands])]
  case extract x i => simp only [oExtract, h x (by simp [Op.operands])]
  case field t x f =>
    unfold oField
    generalize fieldOf P t f = fo
    rcases fo with _ | ⟨off, g, n⟩
    · rfl
    · cases g <;> simp only [h x (by simp [Op.operands])]
  case makeInterface t x =>
    unfold oMakeIface
    split
    · split
      · rfl
      · simp only [h x (by simp [Op.operands])]
    · rfl
  case makeFunc f fi ca =>
    show RV.ok _ st = RV.ok _ st
    rw [evs_congr (l := fi.toList) (fun y hy => h y (by simp [Op.operands]; exact .inl (by simpa using hy))), evs_congr (l := ca.toList) (fun y hy => h y (by simp [Op.operands]; exact .inr (by simpa using hy)))]
  case typeAssert x t0 t ok =>
    unfold oAssert
    split
    · simp only [h x (by simp [Op.operands])]
    · simp only [h x (by simp [Op.operands])]
    · rfl
  case panic x => simp only [oPanic, h x (by simp [Op.operands])]
  case makeMap t r => cases r <;> rfl
  case defer c =>
    unfold oDefer
    have hargs : ∀ x ∈ c.args.toList, (ev cx x).f env loc = (ev cx x).f env' loc' := fun x hx => h x (by simp [Op.operands, Call.operands]; exact .inr (by simpa using hx))
    cases hc : c.callee with
    | value f => simp only [h f (by simp [Op.operands, Call.operands, hc]), evs_congr hargs]
    | invoke r m => rfl
    | builtin b => rfl
  case insert t m k x =>
    unfold oUpdate
    generalize mapOf P t = mi
    rcases mi with _ | ⟨kd, z⟩
    · rfl
    · simp only [h m (by simp [Op.operands]), h k (by simp [Op.operands]), h x (by simp [Op.operands])]
  case mapUpdate t m k x =>
    unfold oUpdate
    generalize mapOf P t = mi
    rcases mi with _ | ⟨kd, z⟩
    · rfl
    · simp only [h m (by simp [Op.operands]), h k (by simp [Op.operands]), h x (by simp [Op.operands])]
  case lookup t m k ok =>
    unfold oLookup
    generalize mapOf P t = mi
    rcases mi with _ | ⟨kd, z⟩
    · rfl
    · cases z with
      | none => rfl
      | some z => simp only [h m (by simp [Op.operands]), h k (by simp [Op.operands])]
  case call c =>
    unfold oCall
    have hargs : ∀ x ∈ c.args.toList, (ev cx x).f env loc = (ev cx x).f env' loc' := fun x hx => h x (by simp [Op.operands, Call.operands]; exact .inr (by simpa using hx))
    cases hc : c.callee with
    | value f =>
      simp only [h f (by simp [Op.operands, Call.operands, hc]), evs_congr hargs]
    | invoke r m => rfl
    | builtin b =>
      simp only
      unfold oBuiltin
      generalize c.args.toList = A at hargs
      generalize c.argTypes.toList = Ts
      cases b <;> simp only <;> try rfl
      case append =>
        rcases A with _ | ⟨x, _ | ⟨y, _ | ⟨z, A⟩⟩⟩ <;> rcases Ts with _ | ⟨t, _ | ⟨t2, _ | ⟨t3, Ts⟩⟩⟩ <;> simp only <;> try rfl
        unfold oAppend
        split
        · split
          · rename_i es by_ z _ _ _
            cases (Nat.beq (len (cellsOf z)) es && noInt P t2) with
            | false => rfl
            | true => simp only [cond_true]; unfold appendF; simp only [hargs x (by simp), hargs y (by simp)]
          · rfl
        · rfl
      case len =>
        rcases A with _ | ⟨x, _ | ⟨y, A⟩⟩ <;> rcases Ts with _ | ⟨t, _ | ⟨t2, Ts⟩⟩ <;> simp only <;> try rfl
        split
        · split
          · simp only [hargs x (by simp)]
          · simp only [hargs x (by simp)]
          · rfl
          · simp only [hargs x (by simp)]
          · rfl
        · rfl
      case max =>
        rcases A with _ | ⟨x, _ | ⟨y, _ | ⟨z, A⟩⟩⟩ <;> simp only <;> try rfl
        unfold oMax
        simp only [hargs x (by simp), hargs y (by simp)]
      case min =>
        rcases A with _ | ⟨x, _ | ⟨y, _ | ⟨z, A⟩⟩⟩ <;> simp only <;> try rfl
        unfold oMin
        simp only [hargs x (by simp), hargs y (by simp)]
      case unsafeSliceData =>
        rcases A with _ | ⟨x, _ | ⟨y, A⟩⟩ <;> simp only <;> try rfl
        simp only [hargs x (by simp)]
      case unsafeString =>
        rcases A with _ | ⟨x, _ | ⟨y, _ | ⟨z, A⟩⟩⟩ <;> rcases Ts with _ | ⟨t, _ | ⟨t2, _ | ⟨t3, Ts⟩⟩⟩ <;> simp only <;> try rfl
        split
        · simp only [hargs x (by simp), hargs y (by simp)]
        · rfl
      case delete =>
        rcases A with _ | ⟨x, _ | ⟨y, _ | ⟨z, A⟩⟩⟩ <;> rcases Ts with _ | ⟨t, _ | ⟨t2, _ | ⟨t3, Ts⟩⟩⟩ <;> simp only <;> try rfl
        unfold oDelete
        generalize mapOf P t = mi
        rcases mi with _ | ⟨kd, z⟩
        · rfl
        · simp only [hargs x (by simp), hargs y (by simp)]
end
end Go.Proofs.YtbmbjaogcmokoaaGreatDoorX
