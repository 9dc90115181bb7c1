/- A function's body, in two parts: the second one is run from what is known behind the first one. -/
import Derived.Test.YtbmbjaogcmokoaaGreatDoorXTop
namespace Go.Proofs.YtbmbjaogcmokoaaGreatDoorX
open Go Go.RowKit
set_option linter.unusedVariables false

/-- a row of codes -/
def flat (c : Code) : List Code := match c with
  | .seq a b => flat a ++ flat b
  | c => [c]
def wpL (P : Program) (Q : Exit → Act → World → Prop) : List Code → Act → World → Prop
  | [], a, w => Q .normal a w
  | c :: r, a, w => c.wp P (Exit.then (wpL P Q r) Q) a w

section
variable {P : Program} {Q : Exit → Act → World → Prop}
theorem wpL_mono {Q' : Exit → Act → World → Prop} (h : ∀ e a w, Q e a w → Q' e a w) : ∀ (l : List Code) (a : Act) (w : World), wpL P Q l a w → wpL P Q' l a w
  | [], a, w, k => h _ _ _ k
  | c :: r, a, w, k => Code.wp_mono (fun e a w q => by
      cases e <;> first | exact wpL_mono h r a w q | exact h _ _ _ q) k
theorem wpL_app : ∀ (l m : List Code) (a : Act) (w : World), wpL P Q (l ++ m) a w → wpL P (Exit.then (wpL P Q m) Q) l a w
  | [], m, a, w, h => h
  | c :: r, m, a, w, h => Code.wp_mono (fun e a w q => by
      cases e <;> first | exact wpL_app r m a w q | exact q) h
theorem wpL_join : ∀ (l m : List Code) (a : Act) (w : World), wpL P (Exit.then (wpL P Q m) Q) l a w → wpL P Q (l ++ m) a w
  | [], m, a, w, h => h
  | c :: r, m, a, w, h => Code.wp_mono (fun e a w q => by
      cases e <;> first | exact wpL_join r m a w q | exact q) h
theorem wp_one {c : Code} {a : Act} {w : World} (h : wpL P Q [c] a w) : c.wp P Q a w := Code.wp_mono (fun e a w q => by cases e <;> exact q) h
theorem wp_flat : ∀ (c : Code) (Q : Exit → Act → World → Prop) (a : Act) (w : World), wpL P Q (flat c) a w → c.wp P Q a w := by
  intro c
  induction c with
  | seq x y ihx ihy =>
    intro Q a w h
    unfold flat at h
    refine wp_seq (Code.wp_mono (fun e a w q => ?_) (ihx _ a w (wpL_app _ _ _ _ h)))
    cases e <;> first | exact ihy _ _ _ q | exact q
  | _ => intro Q a w h; exact wp_one h
end

noncomputable def denL (P : Program) (cx : Cx) (l : List Code) : CodeF := match l with
  | [] => ⟨fun _ env st => .ok .normal env st⟩
  | c :: r => ⟨fun call env st => match (den P cx c).f call env st with
    | .ok e env st => match e with
      | .normal => (denL P cx r).f call env st
      | e => .ok e env st
    | .err n => .err n⟩

section
variable {sy : Sy} {G : Nat} {B : Kp} {w0 : World} {P : Program} {ρ ρ' : Ren} {cx : Cx} {env env2 : List CV} {a : Act} {st st2 : St} {w : World} {call : Caller} {e : Ex}

theorem denL_ok (hden : ∀ c, Den sy G B w0 P cx c ((den P cx c).f call)) : ∀ (l : List Code) (env : List CV) (st : St) (e : Ex) (env2 : List CV) (st2 : St) (ρ : Ren) (a : Act) (w : World), (denL P cx l).f call env st = .ok e env2 st2 →
    SR sy G cx ρ env .nil a → DRel sy ρ st.dfs a.defers → WRel sy G B w0 ρ st w → wpL P (PostC sy G B w0 cx ρ e env2 st2) l a w
  | [], env, st, e, env2, st2, ρ, a, w, hr, hs, hd, hw => by
    have hr' : R.ok .normal env st = .ok e env2 st2 := hr
    cases hr'
    exact ⟨ρ, Ren.le_refl _, rfl, hs, hd, hw⟩
  | c :: r, env, st, e, env2, st2, ρ, a, w, hr, hs, hd, hw => by
    have hr' : (match (den P cx c).f call env st with
      | .ok e env st => match e with
        | .normal => (denL P cx r).f call env st
        | e => .ok e env st
      | .err n => .err n : R) = .ok e env2 st2 := hr
    cases hf : (den P cx c).f call env st with
    | err k => rw [hf] at hr'; cases hr'
    | ok e1 env1 st1 =>
      rw [hf] at hr'
      refine Code.wp_mono (fun e' a' w' hp => ?_) (hden c env st e1 env1 st1 ρ a w hf hs hd hw)
      obtain ⟨ρ1, hle, hex, hs1, hd1, hw1⟩ := hp
      cases e1 with
      | normal =>
        simp only [ExRel] at hex
        subst hex
        exact wpL_mono (fun _ _ _ h => h.mono hle) r a' w' (denL_ok hden r env1 st1 e env2 st2 ρ1 a' w' hr' hs1 hd1 hw1)
      | exit id => simp only at hr'; cases hr'; simp only [ExRel] at hex; subst hex; exact ⟨ρ1, hle, rfl, hs1, hd1, hw1⟩
      | ret => simp only at hr'; cases hr'; simp only [ExRel] at hex; subst hex; exact ⟨ρ1, hle, rfl, hs1, hd1, hw1⟩
      | panic v => simp only at hr'; cases hr'; obtain ⟨v', rfl, hv⟩ := hex; exact ⟨ρ1, hle, ⟨v', rfl, hv⟩, hs1, hd1, hw1⟩

/-- a function's code has ended: what it owes its caller -/
theorem end_ok (hdraw : DrawOk sy G B w0 P) (hall : ∀ B w0, CallerSound sy G B w0 P call) (hint : Nat → List Nat) {fn : Func} {d : List Dfr} {r : RV} {e' : Exit} {w' : World} {a' : Act} (hne : ∀ k, r ≠ .err k)
    (hr : endF P G hint cx fn.results.toList call d (.ok e env2 st2) = r) (hp : PostC sy G B w0 cx ρ e env2 st2 e' a' w') : bodyPostM P fn (RetR sy G B w0 ρ r) e' a' w' := by
  obtain ⟨ρ1, hle1, hex, hs1, hd1, hw1⟩ := hp
  obtain ⟨h1, n1, d1⟩ := st2
  have hs2 : SR sy G cx ρ1 env2 .nil { tmps := a'.tmps, defers := [] } := ⟨hs1.ng, hs1.size, hs1.slot⟩
  cases e with
  | normal =>
    have he : e' = .normal := hex
    subst he
    exact leave_ok hdraw hall hint hne d1 a'.defers none .returning h1 n1 ρ1 w' hr hle1 hd1 hw1.dfs rfl hs2
  | ret =>
    have he : e' = .ret := hex
    subst he
    exact leave_ok hdraw hall hint hne d1 a'.defers none .returning h1 n1 ρ1 w' hr hle1 hd1 hw1.dfs rfl hs2
  | exit id => simp only [endF] at hr; exact absurd hr.symm (hne _)
  | panic v =>
    obtain ⟨v', rfl, hv⟩ := hex
    exact leave_ok hdraw hall hint hne d1 a'.defers (some v) (.panicking [⟨v', false, false⟩]) h1 n1 ρ1 w' hr hle1 hd1 hw1.dfs ⟨v', rfl, hv⟩ hs2
end

/-! ## The two parts -/
/-- how the first part ends -/
noncomputable def headEnv (r : R) : Option (List CV × St) := match r with
  | .ok e env st => match e with
    | .normal => some (env, st)
    | _ => none
  | .err _ => none
def isStart (G : Nat) (st : St) : Bool := match st with
  | ⟨h, n, d⟩ => match h with
    | .nil => match d with
      | [] => Nat.beq n G
      | _ => false
    | _ => false
/-- the first part ends as it is said: where 'E' is known -/
noncomputable def headSays (G : Nat) (E : List CV) (r : R) : Bool := match headEnv r with
  | some (env, st) => keptE E env && isStart G st
  | none => false

/-- the second part says 'true' from where the first part ends: so does the function -/
theorem two_parts {P : Program} {G : Nat} {hint : Nat → List Nat} {orc : Orc} {n f k : Nat} {fn : Func} {c : Code} {args : List CV} {args' : List Value} {sy : Sy} {E : List CV} (hro : ∀ k, ¬ sy.ro k) (hm : P.follows .mixedOrders = true) (ho : OrcOk P orc)
    (hf : P.funcs[f]? = some fn) (hb : fn.body = some c) (hn : args.length ≤ fn.ntmps) (hargs : ∀ ρ, VRels sy ρ args args')
    (hhead : headSays G E ((denL P ⟨hint f, fn.ntmps, G⟩ ((flat c).take k)).f (runO P G hint orc n) (initEnv (hint f) args) ⟨.nil, G, []⟩) = true)
    (htail : saysTrue (endF P G hint ⟨hint f, fn.ntmps, G⟩ fn.results.toList (runO P G hint orc n) [] ((denL P ⟨hint f, fn.ntmps, G⟩ ((flat c).drop k)).f (runO P G hint orc n) E ⟨.nil, G, []⟩)) = true) (w : World) :
    Calls P f args'.toArray w fun e w' => e = .returned (.bool true) ∧ Below w.heap.size w w' := by
  have hw0 := wrel0 sy hro G w
  have hall : ∀ B w0, CallerSound sy G B w0 P (runO P G hint orc n) := fun B w0 => runO_ok (fun _ _ => draw_ok hm) hint ho n B w0
  have hden : ∀ B w0 c, Den sy G B w0 P ⟨hint f, fn.ntmps, G⟩ c ((den P ⟨hint f, fn.ntmps, G⟩ c).f (runO P G hint orc n)) := fun B w0 => den_ok hall (draw_ok hm _ _ hall)
  have hsr := init_sr (G := G) (vars := hint f) (hargs (ren0 G)) hn
  unfold headSays at hhead
  generalize hH : (denL P ⟨hint f, fn.ntmps, G⟩ ((flat c).take k)).f (runO P G hint orc n) (initEnv (hint f) args) ⟨.nil, G, []⟩ = rh at hhead
  cases rh with
  | err m => cases hhead
  | ok e1 env1 st1 =>
    cases e1 <;> simp only [headEnv] at hhead <;> try (cases hhead; done)
    rw [Bool.and_eq_true] at hhead
    obtain ⟨hk, hst⟩ := hhead
    have hst1 : st1 = ⟨.nil, G, []⟩ := by
      obtain ⟨h, m, d⟩ := st1
      unfold isStart at hst
      cases h <;> simp only at hst <;> try (cases hst; done)
      cases d <;> simp only at hst <;> try (cases hst; done)
      rw [Nat.eq_of_beq_eq_true hst]
    subst hst1
    generalize hT : (denL P ⟨hint f, fn.ntmps, G⟩ ((flat c).drop k)).f (runO P G hint orc n) E ⟨.nil, G, []⟩ = rt at htail
    cases rt with
    | err m => cases htail
    | ok e2 env2 st2 =>
      generalize hR : endF P G hint ⟨hint f, fn.ntmps, G⟩ fn.results.toList (runO P G hint orc n) [] (.ok e2 env2 st2) = r at htail
      have hr : ∃ s, r = .ok (.bool true) s := by
        cases r with
        | err m => cases htail
        | pan v s => cases htail
        | ok v s =>
          cases v <;> first | (rename_i b; cases b <;> first | exact ⟨_, rfl⟩ | cases htail) | cases htail
      obtain ⟨s, rfl⟩ := hr
      refine Calls.mono (calls_of_wp_marks hf hb (R := RetR sy G ⟨fun k => k < w.heap.size, fun _ => False⟩ w (ren0 G) (.ok (.bool true) s)) ?_) fun e w' ⟨ρ', v', he, _, hv', hw⟩ => ?_
      · refine wp_flat _ _ _ _ ?_
        rw [← List.take_append_drop k (flat c)]
        refine wpL_join _ _ _ _ ?_
        refine wpL_mono (fun e' a' w' hp => ?_) _ _ _ (denL_ok (hden _ _) _ _ _ _ _ _ (ren0 G) _ w hH hsr (by exact rfl) hw0)
        obtain ⟨ρ1, hle, hex, hs1, hd1, hw1⟩ := hp
        simp only [ExRel] at hex
        subst hex
        have hs2 : SR sy G ⟨hint f, fn.ntmps, G⟩ ρ1 E .nil a' := hs1.less fun t => less_nth (keptE_less _ _ hk) t
        show wpL P _ _ a' w'
        refine wpL_mono (fun e3 a3 w3 hp3 => ?_) _ _ _ (denL_ok (hden _ _) _ _ _ _ _ _ ρ1 _ w' hT hs2 hd1 hw1)
        exact end_ok (draw_ok hm) hall hint (fun _ h => by cases h) hR (hp3.mono hle)
      · simp only [VRel] at hv'
        subst hv'
        exact ⟨he, ⟨hw.below.os, hw.below.tape, hw.below.output, hw.below.size, hw.below.block⟩⟩
end Go.Proofs.YtbmbjaogcmokoaaGreatDoorX
