/- Loops that look through a map (2): the loop. -/
import Derived.Test.YtbmbjaogcmokoaaGreatDoorXScan
namespace Go.Proofs.YtbmbjaogcmokoaaGreatDoorX
open Go Go.RowKit
set_option linter.unusedVariables false

section
variable {sy : Sy} {G : Nat} {B B' : Kp} {w0 : World} {P : Program} {ρ ρ' : Ren} {cx : Cx} {env env1 env2 env' : List CV} {loc : Loc} {a : Act} {st st' : St} {w w' : World} {o : Oper} {call : Caller} {e : Ex} {cur : Cur}

theorem Kept.sub {B B' : Kp} {w w' : World} (h : ∀ k, B.blk k → B'.blk k) (k : Kept B' w w') : Kept B w w' := ⟨k.os, k.tape, k.output, k.size, fun j hj => k.block j (h j hj)⟩
/-! ## Stamps that rise -/
theorem rising_tail : ∀ {x : Ent} {r : List Ent}, rising (x :: r) = true → rising r = true
  | x, [], _ => rfl
  | x, f :: r, h => by
    unfold rising at h
    rw [Bool.and_eq_true] at h
    exact h.2
theorem rising_lt : ∀ {x : Ent} {r : List Ent}, rising (x :: r) = true → ∀ y ∈ r, x.born < y.born
  | x, [], _, y, hy => by simp at hy
  | x, f :: r, h, y, hy => by
    have h' := h
    unfold rising at h
    rw [Bool.and_eq_true] at h
    have hx : x.born < f.born := by simpa [Nat.blt_eq] using h.1
    rw [List.mem_cons] at hy
    rcases hy with rfl | hy
    · exact hx
    · have := rising_lt h.2 y hy; omega
theorem rising_inj : ∀ {l : List Ent}, rising l = true → ∀ x ∈ l, ∀ y ∈ l, x.born = y.born → x = y
  | [], _, x, hx, _, _, _ => by simp at hx
  | z :: r, h, x, hx, y, hy, he => by
    rw [List.mem_cons] at hx hy
    rcases hx with rfl | hx
    · rcases hy with rfl | hy
      · rfl
      · have := rising_lt h y hy; omega
    · rcases hy with rfl | hy
      · have := rising_lt h x hx; omega
      · exact rising_inj (rising_tail h) x hx y hy he
theorem EntRel.mem : ∀ {l : List Ent} {l' : List MapEntry}, EntRel sy ρ l l' → ∀ y ∈ l', ∃ x ∈ l, VRel sy ρ x.key y.key ∧ VRel sy ρ x.val y.val ∧ y.born = x.born
  | [], _, h, y, hy => by simp only [EntRel] at h; subst h; simp at hy
  | x :: r, _, h, y, hy => by
    simp only [EntRel] at h
    obtain ⟨z, s, rfl, h1, h2, h3, h4⟩ := h
    rw [List.mem_cons] at hy
    rcases hy with rfl | hy
    · exact ⟨x, by simp, h1, h2, h3⟩
    · obtain ⟨q, hq, k⟩ := EntRel.mem h4 y hy
      exact ⟨q, by simp [hq], k⟩
theorem EntRel.mem' : ∀ {l : List Ent} {l' : List MapEntry}, EntRel sy ρ l l' → ∀ x ∈ l, ∃ y ∈ l', VRel sy ρ x.key y.key ∧ VRel sy ρ x.val y.val ∧ y.born = x.born
  | [], _, h, x, hx => by simp at hx
  | z :: r, _, h, x, hx => by
    simp only [EntRel] at h
    obtain ⟨y, s, rfl, h1, h2, h3, h4⟩ := h
    rw [List.mem_cons] at hx
    rcases hx with rfl | hx
    · exact ⟨y, by simp, h1, h2, h3⟩
    · obtain ⟨q, hq, k⟩ := EntRel.mem' h4 x hx
      exact ⟨q, by simp [hq], k⟩

/-! ## The step -/
theorem choose_next (n : Nat) (hn : 0 < n) (w : World) : ∃ c dr, c < n ∧ (choose (.mapNext n)).run P w = .ok c { w with drawn := dr } := by
  by_cases h : n ≤ 1
  · refine ⟨0, w.drawn, hn, ?_⟩
    simp [choose, Sem.run, Question.forced, h]
  · refine ⟨(w.tape w.drawn (.mapNext n)) % n, w.drawn + 1, Nat.mod_lt _ hn, ?_⟩
    simp [choose, Sem.run, Question.forced, h, Question.cut]

theorem next_scan {l k since last : Nat} {seen : Array Nat} {es' : Array MapEntry} {t : TypeId} (hl : w.heap[l]? = some (.mapIter (some k) since seen last)) (hk : w.heap[k]? = some (.map es' last))
    (hold : ∀ y ∈ es'.toList, y.born < since ∧ y.born < last) (hne : es'.toList ≠ []) :
    ((∀ y ∈ es'.toList, y.born ∈ seen) ∧ (Instr.next (.pointer (some ⟨l, 0, none⟩)) false t).run P w = .ok (.tuple #[.bool false]) w) ∨
    ∃ y ∈ es'.toList, y.born ∉ seen ∧ ∃ dr, (Instr.next (.pointer (some ⟨l, 0, none⟩)) false t).run P w = .ok (.tuple #[.bool true, y.key, y.val]) { w with heap := w.heap.setIfInBounds l (.mapIter (some k) since (seen.push y.born) last), drawn := dr } := by
  have hall : (!seen.isEmpty && !es'.isEmpty && es'.all (fun e => decide (e.born ≥ last))) = false := by
    have : es'.all (fun e => decide (e.born ≥ last)) = false := by
      rw [← Array.all_toList]
      cases hes : es'.toList with
      | nil => exact absurd hes hne
      | cons y r =>
        have := (hold y (by rw [hes]; simp)).2
        have h2 : ¬ y.born ≥ last := by omega
        simp [h2]
    rw [this]; simp
  have hold2 : ((es'.filter fun e => !seen.contains e.born).filter fun e => decide (e.born < since)) = es'.filter fun e => !seen.contains e.born := by
    apply Array.filter_eq_self.2
    intro y hy
    have : y ∈ es' := (Array.mem_filter.1 hy).1
    have := (hold y (by simpa using this)).1
    simpa using this
  have hnew : ((es'.filter fun e => !seen.contains e.born).filter fun e => decide (e.born ≥ since)) = #[] := by
    apply Array.filter_eq_empty_iff.2
    intro y hy
    have : y ∈ es' := (Array.mem_filter.1 hy).1
    have := (hold y (by simpa using this)).1
    simp; omega
  by_cases hE : (es'.filter fun e => !seen.contains e.born) = #[]
  · refine .inl ⟨fun y hy => ?_, ?_⟩
    · have := Array.filter_eq_empty_iff.1 hE y (by simpa using hy)
      simpa using this
    · simp only [Instr.next, Sem.run_bind, run_getObj hl (by simp), Result.andThen, run_getObj hk (by simp), hall, hE]
      simp [choose, Sem.run, Question.forced]
  · have hpos : 0 < (es'.filter fun e => !seen.contains e.born).size := by
      rcases Nat.eq_zero_or_pos (es'.filter fun e => !seen.contains e.born).size with h | h
      · exact absurd (Array.eq_empty_of_size_eq_zero h) hE
      · exact h
    obtain ⟨c, dr, hc, hrun⟩ := choose_next (P := P) _ hpos w
    have hmem : (es'.filter fun e => !seen.contains e.born)[c] ∈ es'.filter fun e => !seen.contains e.born := Array.getElem_mem hc
    have hm2 := Array.mem_filter.1 hmem
    refine .inr ⟨(es'.filter fun e => !seen.contains e.born)[c], by simpa using hm2.1, by simpa using hm2.2, dr, ?_⟩
    have hemp : (es'.filter fun e => !seen.contains e.born).isEmpty = false := by
      cases h : (es'.filter fun e => !seen.contains e.born).isEmpty with
      | false => rfl
      | true => exact absurd (by simpa using h) hE
    have hl' : ({ w with drawn := dr } : World).heap[l]? = some (.mapIter (some k) since seen last) := hl
    simp only [Instr.next, Sem.run_bind, run_getObj hl (by simp), Result.andThen, run_getObj hk (by simp), hall, hold2, hnew, hemp, Bool.false_eq_true, if_false, Array.empty_append, Array.append_empty, Array.size_map, hrun, Array.getElem?_map, Array.getElem?_eq_getElem hc, Option.map_some, run_setObj hl' (by simp), Sem.run_pure]

theorem entry_scan {l k since last : Nat} {seen : Array Nat} {es' : Array MapEntry} {y : MapEntry} (hl : w.heap[l]? = some (.mapIter (some k) since (seen.push y.born) last)) (hk : w.heap[k]? = some (.map es' last))
    {z : MapEntry} (hz : es'.toList.find? (fun e => e.born == y.born) = some z) : (Instr.entry (.pointer (some ⟨l, 0, none⟩))).run P w = .ok (.tuple #[z.key, z.val]) w := by
  have hz' : es'.find? (fun e => e.born == y.born) = some z := by rw [← Array.find?_toList]; exact hz
  simp only [Instr.entry, Sem.run_bind, run_getObj hl (by simp), Result.andThen, Array.back?_push, run_getObj hk (by simp), bne_self_eq_false, Bool.false_eq_true, if_false, hz', Sem.run_pure]

/-- the iterator's block is written: nothing of the executor's hangs on it -/
theorem WRel.poke {l dr : Nat} {O : Go.Obj} (h : WRel sy G B' w ρ st w) (hl : B'.blk l) (hro : ¬ sy.ro l) :
    WRel sy G B' { w with heap := w.heap.setIfInBounds l O, drawn := dr } ρ st { w with heap := w.heap.setIfInBounds l O, drawn := dr } where
  below := Kept.refl _ _
  base := fun k hk => by have := h.base k hk; simpa using this
  ro := h.ro
  gone := h.gone
  glob := h.glob
  dom := h.dom
  obj := fun b o hb => by
    have hx := h.obj b o hb
    by_cases hdead : o = .dead
    · subst hdead; trivial
    refine hx.of_block fun i hi => ?_
    have : l ≠ i.blk := fun e => by
      by_cases ho : owned o = true
      · obtain ⟨i', q1, q2, _⟩ := hx.own ho
        rw [hi] at q1; cases q1
        exact q2 (e ▸ hl)
      · cases o <;> simp [owned] at ho
        · obtain ⟨i', c, e', fz, q1, q2, _⟩ := hx
          rw [hi] at q1; cases q1
          exact hro (e ▸ q2)
        · exact absurd rfl hdead
    show (w.heap.setIfInBounds l O)[i.blk]? = w.heap[i.blk]?
    exact Array.getElem?_setIfInBounds_ne this
  inj := h.inj

/-! ## What the executor has found -/
/-- a round from its step on -/
def RoundIs (P : Program) (cx : Cx) (s : Scan) (v b : CV) (cur : Cur) (call : Caller) (env : List CV) (st : St) (ex : Ex) (env' : List CV) : Prop :=
  ∃ env1 loc1 env2 loc2 st', PutIs cx (some s.d0) v env .nil env1 loc1 ∧ PutIs cx (some s.d1) b env1 loc1 env2 loc2 ∧ (denQ P cx s.rest).f cur call env2 st = .ok ex env' st'
theorem stepQ_is {s : Scan} {v b : CV} {K : Ex → List CV → R} {st2 : St} (h : stepQ P cx s v b cur call env st K = .ok e env2 st2) : ∃ ex env', RoundIs P cx s v b cur call env st ex env' ∧ K ex env' = .ok e env2 st2 := by
  unfold stepQ at h
  rcases put_is (cx := cx) (some s.d0) v env .nil with ⟨env1, loc1, hp⟩ | ⟨n, hn⟩
  · rw [hp] at h
    try simp only at h
    rcases put_is (cx := cx) (some s.d1) b env1 loc1 with ⟨env3, loc3, hp2⟩ | ⟨n, hn⟩
    · rw [hp2] at h
      try simp only at h
      cases hd : (denQ P cx s.rest).f cur call env3 st with
      | err n => rw [hd] at h; cases h
      | ok ex env' st' =>
        rw [hd] at h
        exact ⟨ex, env', ⟨env1, loc1, env3, loc3, st', hp, hp2, hd⟩, h⟩
    · rw [hn] at h; cases h
  · rw [hn] at h; cases h

def LessE (cx : Cx) (l m : List CV) : Prop := ∀ t, LeV (look cx l .nil t) (look cx m .nil t)
theorem LessE.refl (l : List CV) : LessE cx l l := fun _ => .inr rfl
theorem LessE.trans {l m n : List CV} (h : LessE cx l m) (k : LessE cx m n) : LessE cx l n := fun t => (h t).trans (k t)

/-- an end that leaves the loop -/
def leaves : Ex → Bool
  | .ret => true
  | .exit _ => true
  | _ => false
theorem exAlike_eq {x y : Ex} (h : exAlike x y = true) : x = y := by
  cases x <;> cases y <;> simp [exAlike] at h
  · subst h; rfl
  · rfl

noncomputable def accK (P : Program) (cx : Cx) (s : Scan) (b : Nat) (call : Caller) (env : List CV) (st : St) (r : List Ent) (acc : Option (Ex × List CV)) (ex : Ex) (env' : List CV) (K : Option (Ex × List CV) → R) : R := match acc with
  | none => scanL P cx s b call env st r (some (ex, env')) K
  | some (ex0, env0) => bif exAlike ex0 ex then scanL P cx s b call env st r (some (ex0, alikeE env0 env')) K else .err 309
theorem scanL_spec {s : Scan} {b : Nat} : ∀ (es : List Ent) (acc : Option (Ex × List CV)) (K : Option (Ex × List CV) → R) (e : Ex) (env2 : List CV) (st2 : St), scanL P cx s b call env st es acc K = .ok e env2 st2 →
    (∀ ex en, acc = some (ex, en) → leaves ex = true) →
    ∃ acc', K acc' = .ok e env2 st2 ∧ (∀ ex en, acc' = some (ex, en) → leaves ex = true) ∧
      (∀ ex en, acc = some (ex, en) → ∃ en', acc' = some (ex, en') ∧ LessE cx en' en) ∧
      (acc = none → acc' ≠ none → ∃ x ∈ es, ∃ ex env', RoundIs P cx s (.tup [.bool true, x.key, x.val]) (.bool true) (some (b, .tup [x.key, x.val])) call env st ex env' ∧ leaves ex = true) ∧
      ∀ x ∈ es, ∃ ex env', RoundIs P cx s (.tup [.bool true, x.key, x.val]) (.bool true) (some (b, .tup [x.key, x.val])) call env st ex env' ∧
        ((ex = .normal ∧ keptE env env' = true) ∨ (leaves ex = true ∧ ∃ en', acc' = some (ex, en') ∧ LessE cx en' env'))
  | [], acc, K, e, env2, st2, h, hl => ⟨acc, h, hl, fun ex en he => ⟨en, he, .refl _⟩, fun h1 h2 => absurd h1 h2, fun x hx => by simp at hx⟩
  | x :: r, acc, K, e, env2, st2, h, hl => by
    unfold scanL at h
    obtain ⟨ex, env', hround, hk⟩ := stepQ_is h
    -- an end that leaves
    have leave : ∀ {ex : Ex}, leaves ex = true → RoundIs P cx s (.tup [.bool true, x.key, x.val]) (.bool true) (some (b, .tup [x.key, x.val])) call env st ex env' →
        accK P cx s b call env st r acc ex env' K = .ok e env2 st2 →
        ∃ acc', K acc' = .ok e env2 st2 ∧ (∀ ex en, acc' = some (ex, en) → leaves ex = true) ∧
          (∀ ex en, acc = some (ex, en) → ∃ en', acc' = some (ex, en') ∧ LessE cx en' en) ∧
          (acc = none → acc' ≠ none → ∃ x' ∈ x :: r, ∃ ex env', RoundIs P cx s (.tup [.bool true, x'.key, x'.val]) (.bool true) (some (b, .tup [x'.key, x'.val])) call env st ex env' ∧ leaves ex = true) ∧
          ∀ x' ∈ x :: r, ∃ ex env', RoundIs P cx s (.tup [.bool true, x'.key, x'.val]) (.bool true) (some (b, .tup [x'.key, x'.val])) call env st ex env' ∧
            ((ex = .normal ∧ keptE env env' = true) ∨ (leaves ex = true ∧ ∃ en', acc' = some (ex, en') ∧ LessE cx en' env')) := by
      intro ex hlv hround hk
      unfold accK at hk
      cases acc with
      | none =>
        simp only at hk
        obtain ⟨acc', g1, g2, g3, g4, g5⟩ := scanL_spec r (some (ex, env')) K e env2 st2 hk (fun _ _ h => by cases h; exact hlv)
        obtain ⟨en', q1, q2⟩ := g3 ex env' rfl
        refine ⟨acc', g1, g2, (fun _ _ h => by cases h), fun _ _ => ⟨x, by simp, ex, env', hround, hlv⟩, fun x' hx' => ?_⟩
        rw [List.mem_cons] at hx'
        rcases hx' with rfl | hx'
        · exact ⟨ex, env', hround, .inr ⟨hlv, en', q1, q2⟩⟩
        · exact g5 x' hx'
      | some p =>
        obtain ⟨ex0, env0⟩ := p
        simp only at hk
        cases ha : exAlike ex0 ex with
        | false => rw [ha] at hk; cases hk
        | true =>
          rw [ha] at hk
          simp only [cond_true] at hk
          have he := exAlike_eq ha
          subst he
          obtain ⟨acc', g1, g2, g3, g4, g5⟩ := scanL_spec r (some (ex0, alikeE env0 env')) K e env2 st2 hk (fun _ _ h => by cases h; exact hlv)
          obtain ⟨en', q1, q2⟩ := g3 ex0 _ rfl
          have l1 : LessE cx (alikeE env0 env') env0 := less_nth fun k => (alikeE_less env0 env' k).1
          have l2 : LessE cx (alikeE env0 env') env' := less_nth fun k => (alikeE_less env0 env' k).2
          refine ⟨acc', g1, g2, (fun _ _ h => by cases h; exact ⟨en', q1, q2.trans l1⟩), (fun h => by cases h), fun x' hx' => ?_⟩
          rw [List.mem_cons] at hx'
          rcases hx' with rfl | hx'
          · exact ⟨ex0, env', hround, .inr ⟨hlv, en', q1, q2.trans l2⟩⟩
          · exact g5 x' hx'
    cases ex with
    | normal =>
      simp only at hk
      cases hke : keptE env env' with
      | false => rw [hke] at hk; cases hk
      | true =>
        rw [hke] at hk
        simp only [cond_true] at hk
        obtain ⟨acc', g1, g2, g3, g4, g5⟩ := scanL_spec r acc K e env2 st2 hk hl
        refine ⟨acc', g1, g2, g3, fun h1 h2 => ?_, fun x' hx' => ?_⟩
        · obtain ⟨x', hx', q⟩ := g4 h1 h2
          exact ⟨x', by simp [hx'], q⟩
        · rw [List.mem_cons] at hx'
          rcases hx' with rfl | hx'
          · exact ⟨.normal, env', hround, .inl ⟨rfl, hke⟩⟩
          · exact g5 x' hx'
    | panic v => simp only at hk; cases hk
    | exit id => exact leave rfl hround hk
    | ret => exact leave rfl hround hk

/-! ## The loop -/
/-- what a scan knows of a loop's body -/
theorem scanOf_spec {x : Code} {s : Scan} (h : scanOf P x = some s) : ∃ id ops o q, x = .seq (.region id ops false) s.rest ∧ ops.toList = [o, q] ∧ o.guard = none ∧ q.guard = none ∧ o.op = .next s.it false ∧ o.dst = some s.d0 ∧
    q.op = .extract (.tmp s.d0) 0 ∧ q.dst = some s.d1 ∧ s.d0 ≠ s.d1 ∧ quietCode P s.rest = true := by
  unfold scanOf at h
  split at h
  · rename_i y rest
    split at h
    · rename_i id ops draw
      cases draw with
      | true => cases h
      | false =>
        simp only [cond_false] at h
        unfold scanOps at h
        split at h
        · rename_i o q hl
          split at h
          · rename_i hg1 hg2
            split at h
            · rename_i it str z k hop hoq
              split at h
              · rename_i d0 d1 hd0 hd1
                cases str with
                | true => cases h
                | false =>
                  simp only [cond_false] at h
                  cases hk : Nat.beq k 0 with
                  | false => rw [hk] at h; cases h
                  | true =>
                    rw [hk] at h
                    simp only [cond_true] at h
                    have hk0 : k = 0 := Nat.eq_of_beq_eq_true hk
                    subst hk0
                    unfold scanRest at h
                    split at h
                    · rename_i t
                      cases hc : Nat.beq t d0 && (!Nat.beq d0 d1 && quietCode P rest) with
                      | false => rw [hc] at h; cases h
                      | true =>
                        rw [hc] at h
                        cases h
                        simp only [Bool.and_eq_true, Bool.not_eq_true'] at hc
                        obtain ⟨c1, c2, c3⟩ := hc
                        have : t = d0 := Nat.eq_of_beq_eq_true c1
                        subst this
                        exact ⟨id, ops, o, q, rfl, hl, hg1, hg2, hop, hd0, hoq, hd1, (fun e => by simp only at e; subst e; rw [show Nat.beq t t = true from Nat.beq_refl t] at c2; cases c2), c3⟩
                    · cases h
              · cases h
            · cases h
          · cases h
        · cases h
    · cases h
  · cases h

theorem maskE_less (T : Nat → Bool) (env : List CV) : LessE cx (maskE T cx.vars env) env := fun t => by
  have h := look_mask (cx := cx) T env .nil t
  have e : look cx (maskE T cx.vars env) (maskL T .nil) t = look cx (maskE T cx.vars env) .nil t := rfl
  rw [e] at h
  rw [h]
  by_cases ht : T t = true
  · rw [if_pos ht]; exact .inr rfl
  · rw [if_neg ht]; exact .inl rfl

/-- the first part of a round: the step and its word; then the rest -/
theorem round_ok {x : Code} {s : Scan} {Q : Exit → Act → World → Prop} {i : BI} {v b : CV} {v' b' : Value} {w1 : World} {ex : Ex} (hcall : CallerSound sy G B' w1 P call) (hsc : scanOf P x = some s) (hs : SR sy G cx ρ env .nil a) (hd : DRel sy ρ st.dfs a.defers)
    (hit : a.eval s.it = .pointer (some ⟨i.blk, 0, none⟩)) (hstep : ∀ t, (Instr.next (.pointer (some ⟨i.blk, 0, none⟩)) false t).run P w = .ok v' w1)
    (hv : VRel sy ρ v v') (hb : VRel sy ρ b b') (hext : (Instr.extract v' 0).run P w1 = .ok b' w1)
    (hround : RoundIs P cx s v b cur call env st ex env') (hw : WRel sy G B' w1 ρ st w1) (hc : CurOk sy G B' w1 P ρ st cur)
    (hQ : ∀ e' a' w', PostC sy G B' w1 cx ρ ex env' st e' a' w' → Q e' a' w') (hno : ∀ e' a' w', Q e' a' w' → Q e' a' w') : x.wp P Q a w := by
  obtain ⟨id, ops, o, q, rfl, hl, hg1, hg2, hop, hd0, hoq, hd1, hne, hqt⟩ := scanOf_spec hsc
  obtain ⟨env1, loc1, env2, loc2, st', hp1, hp2, hrun⟩ := hround
  refine wp_seq (wp_region_list ?_)
  rw [hl]
  unfold wpList
  rw [if_pos (by simp [Region.wanted, hg1])]
  refine .inl ?_
  have e1 : (execOp a.eval o).run P w = .ok (.value v') w1 := by simp [execOp, hop, hit, hstep]
  unfold Oper.wp
  rw [e1]
  show wpList P ops _ [q] (a.put o.dst v') w1
  have hs1 : SR sy G cx ρ env1 loc1 (a.put o.dst v') := by rw [hd0]; exact hs.put hv hp1
  unfold wpList
  rw [if_pos (by simp [Region.wanted, hg2])]
  refine .inl ?_
  have ht0 : (a.put o.dst v').eval (.tmp s.d0) = v' := by
    have hlt : s.d0 < a.tmps.size := Nat.lt_of_lt_of_le ((put_look hp1).1 _ rfl) hs.size
    rw [hd0]
    simp [Act.put, Act.eval, hlt]
  have e2 : (execOp (a.put o.dst v').eval q).run P w1 = .ok (.value b') w1 := by simp [execOp, hoq, ht0, hext]
  unfold Oper.wp
  rw [e2]
  show Code.wp P s.rest Q ((a.put o.dst v').put q.dst b') w1
  have hs2 : SR sy G cx ρ env2 .nil ((a.put o.dst v').put q.dst b') := by
    rw [hd1]
    exact (hs1.put hb hp2).less (less_loc env2 loc2)
  have hdf : ((a.put o.dst v').put q.dst b').defers = a.defers := by cases o.dst <;> cases q.dst <;> rfl
  have h := denQ_ok (cur := cur) hcall s.rest env2 ex env' st' ρ _ w1 hqt hrun hc hs2 (by rw [hdf]; exact hd) hw
  exact Code.wp_mono (fun e' a' w' hp => hQ _ _ _ hp) h.2

theorem leaves_ok {R : Exit → Act → World → Prop} {ex : Ex} {e' : Exit} {K : Act → World → Prop} {a' : Act} {w' : World} (hlv : leaves ex = true) (hex : ExRel sy ρ ex e') (h : R e' a' w') : Exit.then K R e' a' w' := by
  cases ex <;> simp [leaves] at hlv <;> (simp only [ExRel] at hex; subst hex; exact h)

noncomputable def putE (cx : Cx) (d : Option Nat) (v : CV) (env : List CV) : List CV := match d with
  | none => env
  | some t => match pos cx.vars t with
    | some k => setNth env v k
    | none => env
theorem putIs_env {d : Option Nat} {v : CV} {loc1 : Loc} (h : PutIs cx d v env loc env1 loc1) : env1 = putE cx d v env := by
  have h' := h (fun e _ _ => .ok .normal e ⟨.nil, 0, []⟩) ⟨.nil, 0, []⟩
  unfold put at h'
  unfold putE
  cases d with
  | none => simpa using h'.symm
  | some t =>
    simp only at h' ⊢
    cases hb : Nat.blt t cx.nt with
    | false => rw [hb] at h'; cases h'
    | true =>
      rw [hb] at h'
      simp only [putAt] at h'
      cases hp : pos cx.vars t with
      | none => rw [hp] at h'; simpa using h'.symm
      | some k => rw [hp] at h'; simpa using h'.symm
theorem RoundIs.det {s : Scan} {v b : CV} {ex ex2 : Ex} {env1 env2 : List CV} (h : RoundIs P cx s v b cur call env st ex env1) (k : RoundIs P cx s v b cur call env st ex2 env2) : ex = ex2 := by
  obtain ⟨e1, l1, e2, l2, s1, p1, p2, p3⟩ := h
  obtain ⟨f1, m1, f2, m2, s2, q1, q2, q3⟩ := k
  have a1 := putIs_env p1
  have a2 := putIs_env q1
  have b1 := putIs_env p2
  have b2 := putIs_env q2
  subst a1; subst a2; subst b1; subst b2
  rw [p3] at q3
  cases q3
  rfl
theorem EntRel.find : ∀ {l : List Ent} {l' : List MapEntry}, EntRel sy ρ l l' → rising l = true → ∀ y ∈ l, ∃ z, l'.find? (fun e => e.born == y.born) = some z ∧ VRel sy ρ y.key z.key ∧ VRel sy ρ y.val z.val
  | [], _, h, _, y, hy => by simp at hy
  | x :: r, _, h, hr, y, hy => by
    simp only [EntRel] at h
    obtain ⟨z, s, rfl, h1, h2, h3, h4⟩ := h
    by_cases e : y.born = x.born
    · have : y = x := rising_inj hr y hy x (by simp) e
      subst this
      exact ⟨z, by simp [h3], h1, h2⟩
    · have hy' : y ∈ r := by
        rw [List.mem_cons] at hy
        rcases hy with rfl | hy
        · exact absurd rfl e
        · exact hy
      obtain ⟨q, k1, k2, k3⟩ := EntRel.find h4 (rising_tail hr) y hy'
      refine ⟨q, ?_, k2, k3⟩
      rw [List.find?_cons]
      have : (z.born == y.born) = false := by
        rw [h3]
        simpa using Ne.symm e
      rw [this]
      exact k1

theorem scan_ok {x : Code} {s : Scan} {acc : Option (Ex × List CV)} {i k : BI} {mb b : Nat} {es : List Ent} {since last : Nat} {st2 : St} (hall : ∀ B w0, CallerSound sy G B w0 P call) (hsc : scanOf P x = some s)
    (hris : rising es = true) (hold : ∀ y ∈ es, y.born < since ∧ y.born < last) (hne : es ≠ []) (hmap : st.heap.get mb = some (.map es last)) (hro : ¬ sy.ro i.blk) (hBi : ¬ B.blk i.blk) (hBro : ∀ k, sy.ro k → B.blk k) (hz : i.sh = 0)
    (hends : ∀ y ∈ es, ∃ ex env', RoundIs P cx s (.tup [.bool true, y.key, y.val]) (.bool true) (some (b, .tup [y.key, y.val])) call env st ex env' ∧ ((ex = .normal ∧ keptE env env' = true) ∨ (leaves ex = true ∧ ∃ en', acc = some (ex, en') ∧ LessE cx en' env')))
    (hacc : acc ≠ none → ∃ y ∈ es, ∃ ex env', RoundIs P cx s (.tup [.bool true, y.key, y.val]) (.bool true) (some (b, .tup [y.key, y.val])) call env st ex env' ∧ leaves ex = true)
    (hend : scanEnd P cx s call env st acc = .ok e env2 st2) : ∀ (m : Nat) (ρ : Ren) (a : Act) (w : World) (seen : Array Nat), (es.countP fun y => !seen.contains y.born) = m → ρ b = some i → ρ mb = some k → SR sy G cx ρ env .nil a → DRel sy ρ st.dfs a.defers →
    WRel sy G ⟨fun z => B.blk z ∨ z = i.blk, B.no⟩ w ρ st w → Kept B w0 w → w.heap[i.blk]? = some (.mapIter (some k.blk) since seen last) → VRel sy ρ ((ev cx s.it).f env .nil) (.pointer (some ⟨i.blk, 0, none⟩)) → (∃ p q, (ev cx s.it).f env .nil = .ptr p q) →
    (∀ y ∈ es, ∀ ex env', RoundIs P cx s (.tup [.bool true, y.key, y.val]) (.bool true) (some (b, .tup [y.key, y.val])) call env st ex env' → leaves ex = true → y.born ∉ seen) →
    LoopIn P x (PostC sy G B w0 cx ρ e env2 st2) a w := by
  intro m
  induction m using Nat.strongRecOn with
  | _ m ih =>
    intro ρ a w seen hm hb hk hs hd hw hkp hit hitv hitp hun
    obtain ⟨k', es', q1, q2, q3, q4⟩ := hw.obj mb _ hmap
    rw [hk] at q1; cases q1
    -- the iterator's slot
    have hev : ∀ {ρ1 : Ren} {a1 : Act} {w1 w2 : World} {B1 : Kp}, ρ.le ρ1 → SR sy G cx ρ1 env .nil a1 → WRel sy G B1 w1 ρ1 st w2 → a1.eval s.it = .pointer (some ⟨i.blk, 0, none⟩) := fun {ρ1 a1 w1 w2 B1} hle hs1 hw1 => by
      have h1 := evRel hs1 hw1 s.it
      obtain ⟨p, q, hpq⟩ := hitp
      rw [hpq] at h1 hitv
      simp only [VRel] at h1 hitv
      obtain ⟨j, j1, j2⟩ := hitv
      obtain ⟨j', g1, g2⟩ := h1
      have := hle _ _ j1
      rw [g1] at this; cases this
      rw [g2, j2]
    have hold' : ∀ y ∈ es'.toList, y.born < since ∧ y.born < last := fun y hy => by
      obtain ⟨z, hz1, _, _, hz2⟩ := q4.mem y hy
      rw [hz2]; exact hold z hz1
    have hne' : es'.toList ≠ [] := fun h => by
      cases es with
      | nil => exact hne rfl
      | cons z r =>
        obtain ⟨y, hy, _⟩ := q4.mem' z (by simp)
        rw [h] at hy; simp at hy
    -- back to what was kept
    have back : ∀ {w1 w2 : World} {ρ1 : Ren}, Kept B w w1 → WRel sy G ⟨fun z => B.blk z ∨ z = i.blk, B.no⟩ w1 ρ1 st w2 → WRel sy G B w0 ρ1 st w2 := fun h1 h2 =>
      h2.shrink (fun _ h => .inl h) (fun _ h => h) hBro ((hkp.trans h1).trans (Kept.sub (B' := ⟨fun z => B.blk z ∨ z = i.blk, B.no⟩) (fun _ h => .inl h) h2.below))
    rcases next_scan (P := P) (t := 0) hit q3 hold' hne' with ⟨hseen, hrun⟩ | ⟨y', hy', huns, dr, hrun⟩
    · -- nothing is left
      have hnone : acc = none := by
        cases hacc2 : acc with
        | none => rfl
        | some p =>
          exfalso
          obtain ⟨y, hy, ex, env', hr, hlv⟩ := hacc (by rw [hacc2]; simp)
          obtain ⟨z, hz1, _, _, hz2⟩ := q4.mem' y hy
          exact hun y hy ex env' hr hlv (by rw [← hz2]; exact hseen z hz1)
      subst hnone
      unfold scanEnd at hend
      obtain ⟨ex, env', hround, hK⟩ := stepQ_is hend
      have hx : leaves ex = true ∧ e = ex ∧ env2 = env' ∧ st2 = st := by
        cases ex <;> simp only at hK <;> cases hK <;> exact ⟨rfl, rfl, rfl, rfl⟩
      obtain ⟨hlv, rfl, rfl, rfl⟩ := hx
      refine loopIn_step (round_ok (i := i) (w1 := w) (hall _ _) hsc hs hd (hev (Ren.le_refl _) hs hw) (fun t => hrun) (v' := .tuple #[.bool false]) (b' := .bool false) (by simp only [VRel]; exact ⟨[.bool false], by simp, VRels.cons (by simp only [VRel]) VRels.nil⟩) (by simp only [VRel])
        (by simp [Instr.extract]) hround hw (fun _ _ h => by cases h) (fun e' a' w' hp => ?_) (fun _ _ _ h => h))
      obtain ⟨ρ1, hle, hex, hs1, hd1, hw1⟩ := hp
      exact leaves_ok hlv hex ⟨ρ1, hle, hex, hs1, hd1, back (Kept.refl _ _) hw1⟩
    · -- an entry has come
      obtain ⟨y, hy, hyk, hyv, hyb⟩ := q4.mem y' hy'
      obtain ⟨ex, env', hround, halt⟩ := hends y hy
      have hlt : i.blk < w.heap.size := (Array.getElem?_eq_some_iff.1 hit).1
      have hw1 := hw.poke (l := i.blk) (dr := dr) (O := .mapIter (some k.blk) since (seen.push y'.born) last) (.inr rfl) hro
      generalize hW : ({ w with heap := w.heap.setIfInBounds i.blk (.mapIter (some k.blk) since (seen.push y'.born) last), drawn := dr } : World) = w1 at hrun hw1
      have hit1 : w1.heap[i.blk]? = some (.mapIter (some k.blk) since (seen.push y'.born) last) := by rw [← hW]; simp [hlt]
      have hkp1 : Kept B w w1 := by
        rw [← hW]
        exact ⟨rfl, rfl, rfl, by simp, fun z hz => by
          have : i.blk ≠ z := fun e => hBi (e ▸ hz)
          exact Array.getElem?_setIfInBounds_ne this⟩
      have hcur : CurOk sy G ⟨fun z => B.blk z ∨ z = i.blk, B.no⟩ w1 P ρ st (some (b, .tup [y.key, y.val])) := fun b2 ent he => by
        cases he
        refine ⟨i, hb, hz, fun ρ2 w2 hle2 hw2 => ?_⟩
        have h1 : w2.heap[i.blk]? = some (.mapIter (some k.blk) since (seen.push y'.born) last) := by rw [hw2.below.block _ (.inr rfl)]; exact hit1
        obtain ⟨k2, es2, r1, r2, r3, r4⟩ := hw2.obj mb _ hmap
        rw [hle2 _ _ hk] at r1; cases r1
        obtain ⟨z, z1, z2, z3⟩ := r4.find hris y hy
        rw [← hyb] at z1
        exact ⟨.tuple #[z.key, z.val], by simp only [VRel]; exact ⟨[z.key, z.val], by simp, VRels.cons z2 (VRels.cons z3 VRels.nil)⟩, entry_scan h1 r3 z1⟩
      refine loopIn_step (round_ok (i := i) (w1 := w1) (hall _ _) hsc hs hd (hev (Ren.le_refl _) hs hw) (fun t => hrun) (v' := .tuple #[.bool true, y'.key, y'.val]) (b' := .bool true)
        (by simp only [VRel]; exact ⟨[.bool true, y'.key, y'.val], by simp, VRels.cons (by simp only [VRel]) (VRels.cons hyk (VRels.cons hyv VRels.nil))⟩) (by simp only [VRel])
        (by simp [Instr.extract]) hround hw1 hcur (fun e' a' w' hp => ?_) (fun _ _ _ h => h))
      obtain ⟨ρ1, hle, hex, hs1, hd1, hw2⟩ := hp
      rcases halt with ⟨rfl, hkept⟩ | ⟨hlv, en', hac, hless⟩
      · simp only [ExRel] at hex
        subst hex
        have hs2 : SR sy G cx ρ1 env .nil a' := hs1.less fun t => less_nth (keptE_less _ _ hkept) t
        have hcnt : (es.countP fun z => !(seen.push y'.born).contains z.born) < m := by
          rw [← hm]
          have key : ∀ (l : List Ent), y ∈ l → (l.countP fun z => !(seen.push y'.born).contains z.born) < l.countP fun z => !seen.contains z.born := by
            have le : ∀ l : List Ent, (l.countP fun z => !(seen.push y'.born).contains z.born) ≤ l.countP fun z => !seen.contains z.born := fun l => List.countP_mono_left fun z _ h => by
              simp only [Array.contains_push, Bool.not_or, Bool.and_eq_true] at h
              exact h.1
            intro l
            induction l with
            | nil => intro h; simp at h
            | cons z r ihr =>
              intro h
              rw [List.countP_cons, List.countP_cons]
              by_cases hzy : z = y
              · subst hzy
                have h1 : (!(seen.push y'.born).contains z.born) = false := by rw [← hyb]; simp
                have h2 : (!seen.contains z.born) = true := by rw [← hyb]; simpa using huns
                rw [h1, h2]
                have := le r
                simp only [Bool.false_eq_true, if_false, if_true]
                omega
              · rw [List.mem_cons] at h
                have := ihr (h.resolve_left fun e => hzy e.symm)
                have h3 : (if (!(seen.push y'.born).contains z.born) = true then 1 else 0) ≤ if (!seen.contains z.born) = true then 1 else 0 := by
                  by_cases hc : (!(seen.push y'.born).contains z.born) = true
                  · rw [if_pos hc]
                    simp only [Array.contains_push, Bool.not_or, Bool.and_eq_true] at hc
                    rw [if_pos hc.1]
                    exact Nat.le_refl _
                  · rw [if_neg hc]; exact Nat.zero_le _
                omega
          exact key es hy
        show LoopIn P x (PostC sy G B w0 cx ρ e env2 st2) a' w'
        have hloop := ih _ hcnt ρ1 a' w' (seen.push y'.born) rfl (hle _ _ hb) (hle _ _ hk) hs2 hd1 hw2.again ((hkp.trans hkp1).trans (Kept.sub (B' := ⟨fun z => B.blk z ∨ z = i.blk, B.no⟩) (fun _ h => .inl h) hw2.below)) (by rw [hw2.below.block _ (.inr rfl)]; exact hit1) (hitv.mono sy hle) hitp (fun z hz2 ex2 env3 hr2 hlv2 => by
          intro hmem
          rw [Array.mem_push] at hmem
          rcases hmem with h | h
          · exact hun z hz2 ex2 env3 hr2 hlv2 h
          · have : z = y := rising_inj hris z hz2 y hy (by rw [h, hyb])
            subst this
            have := hround.det hr2
            subst this
            cases hlv2)
        exact fun b0 k0 cs0 => by
          obtain ⟨e3, a3, w3, q3, r3⟩ := hloop b0 k0 cs0
          exact ⟨e3, a3, w3, q3.mono hle, r3⟩
      · subst hac
        unfold scanEnd at hend
        cases hend
        exact leaves_ok hlv hex ⟨ρ1, hle, hex, hs1.less hless, hd1, back hkp1 hw2⟩

/-- a block of the executor's is given up, and kept as it is -/
theorem WRel.unown {h : T Obj} {n b : Nat} {d : List Dfr} {ob : Obj} {i : BI} (hw : WRel sy G B w0 ρ ⟨h, n, d⟩ w) (hb : h.get b = some ob) (ho : owned ob = true) (hi : ρ b = some i) :
    WRel sy G ⟨fun z => B.blk z ∨ z = i.blk, B.no⟩ w ρ ⟨T.set h .dead b, n, d⟩ w := by
  obtain ⟨i', k1, k2, k3⟩ := (hw.obj b _ hb).own ho
  rw [hi] at k1; cases k1
  have ne : ∀ {c : Nat} {o : Obj}, h.get c = some o → c ≠ b → owned o = true → ∀ {j : BI}, ρ c = some j → j.blk ≠ i.blk := fun {c o} hc hcb hoc {j} hj e => hcb (hw.inj c b o ob j i hc hoc hb ho hj hi e)
  exact {
    below := Kept.refl _ _
    base := fun k hk => by
      rcases hk with hk | rfl
      · exact hw.base k hk
      · exact k3
    ro := fun k hk => .inl (hw.ro k hk)
    gone := hw.gone
    glob := hw.glob
    dom := hw.dom
    obj := fun c o hc => by
      simp only [T.get_set] at hc
      by_cases hcb : c = b
      · subst hcb; rw [if_pos rfl] at hc; cases hc; trivial
      · rw [if_neg hcb] at hc
        have hx := hw.obj c o hc
        cases o with
        | row cells n es fr inf =>
          obtain ⟨j, c', e, fz, g1, g2, g3⟩ := hx
          exact ⟨j, c', e, fz, g1, fun q => q.elim g2 (ne hc hcb rfl g1), g3⟩
        | ro cells n => exact hx
        | map es clock =>
          obtain ⟨j, es', g1, g2, g3⟩ := hx
          exact ⟨j, es', g1, fun q => q.elim g2 (ne hc hcb rfl g1), g3⟩
        | siter l n p =>
          obtain ⟨j, g1, g2, g3⟩ := hx
          exact ⟨j, g1, fun q => q.elim g2 (ne hc hcb rfl g1), g3⟩
        | miter m since seen stepped =>
          obtain ⟨j, m', g1, g2, g3⟩ := hx
          exact ⟨j, m', g1, fun q => q.elim g2 (ne hc hcb rfl g1), g3⟩
        | coll =>
          obtain ⟨j, g1, g2, g3⟩ := hx
          exact ⟨j, g1, fun q => q.elim g2 (ne hc hcb rfl g1), g3⟩
        | dead => trivial
    inj := fun b1 b2 o1 o2 i1 i2 h1 q1 h2 q2 r1 r2 e => by
      simp only [T.get_set] at h1 h2
      by_cases e1 : b1 = b
      · subst e1; rw [if_pos rfl] at h1; cases h1; cases q1
      · by_cases e2 : b2 = b
        · subst e2; rw [if_pos rfl] at h2; cases h2; cases q2
        · rw [if_neg e1] at h1
          rw [if_neg e2] at h2
          exact hw.inj b1 b2 o1 o2 i1 i2 h1 q1 h2 q2 r1 r2 e }

theorem scanF_ok {x : Code} {s : Scan} {b : Nat} {es : List Ent} {since last : Nat} {st2 : St} (hall : ∀ B w0, CallerSound sy G B w0 P call) (hsc : scanOf P x = some s) (hat : scanAt x s cx env st = some (b, es, since, last))
    (hr : scanF P cx x s call b es since last env st = .ok e env2 st2) (hs : SR sy G cx ρ env .nil a) (hd : DRel sy ρ st.dfs a.defers) (hw : WRel sy G B w0 ρ st w) : LoopIn P x (PostC sy G B w0 cx ρ e env2 st2) a w := by
  unfold scanAt at hat
  split at hat
  · rename_i b' o' hev
    cases ho : Nat.beq o' 0 with
    | false => rw [ho] at hat; cases hat
    | true =>
      rw [ho] at hat
      simp only [cond_true] at hat
      have : o' = 0 := Nat.eq_of_beq_eq_true ho
      subst this
      split at hat
      · rename_i ob hg
        split at hat
        · rename_i m since' seen last'
          split at hat
          · rename_i mb
            split at hat
            · rename_i oc hgm
              split at hat
              · rename_i es' clock
                cases hcl : Nat.beq clock last' with
                | false => rw [hcl] at hat; cases hat
                | true =>
                  rw [hcl] at hat
                  simp only [cond_true] at hat
                  have : clock = last' := Nat.eq_of_beq_eq_true hcl
                  subst this
                  split at hat
                  · rename_i y1 y2 r
                    cases hat
                    unfold scanF at hr
                    cases hc : (rising (y1 :: y2 :: r) && (y1 :: y2 :: r).all fun e => Nat.blt e.born since && Nat.blt e.born last) with
                    | false => rw [hc] at hr; cases hr
                    | true =>
                      rw [hc] at hr
                      rw [Bool.and_eq_true] at hc
                      obtain ⟨hris, hall2⟩ := hc
                      obtain ⟨h, n, d⟩ := st
                      simp only [cond_true] at hr
                      obtain ⟨i, m', k1, k2, k3, k4, k, k5, k6⟩ := hw.obj b _ hg
                      subst k6
                      have hro : ¬ sy.ro i.blk := fun hh => k2 (hw.ro _ hh)
                      have hne : mb ≠ b := fun e => by subst e; rw [hg] at hgm; cases hgm
                      obtain ⟨acc', a1, a2, _, a4, a5⟩ := scanL_spec _ none _ e env2 st2 hr (fun _ _ h => by cases h)
                      have hit : VRel sy ρ ((ev cx s.it).f (maskE (unwritten (codeOps x)) cx.vars env) .nil) (.pointer (some ⟨i.blk, 0, none⟩)) := by
                        rw [hev]
                        simp only [VRel]
                        exact ⟨i, k1, by simp [k3]⟩
                      refine scan_ok hall hsc hris (fun y hy => ?_) (by simp) (by simp only [T.get_set]; rw [if_neg hne]; exact hgm) hro k2 hw.ro k3 a5 (fun h => a4 rfl h) a1 _ ρ a w #[] rfl k1 k5 (hs.less (maskE_less _ _)) hd (hw.unown hg rfl k1) hw.below (by simpa using k4) hit ⟨b, 0, hev⟩ (fun y _ _ _ _ _ => by simp)
                      have := List.all_eq_true.1 hall2 y hy
                      rw [Bool.and_eq_true] at this
                      exact ⟨by simpa [Nat.blt_eq] using this.1, by simpa [Nat.blt_eq] using this.2⟩
                  · cases hat
              · cases hat
            · cases hat
          · cases hat
        · cases hat
      · cases hat
  · cases hat
end
end Go.Proofs.YtbmbjaogcmokoaaGreatDoorX
