/- A function's body in several parts: each one is run from what is known behind the one ahead. -/
import Derived.Test.YtbmbjaogcmokoaaGreatDoorXTail
namespace Go.Proofs.YtbmbjaogcmokoaaGreatDoorX
open Go Go.RowKit
set_option linter.unusedVariables false

/-! ## What is known of a state: a part of it -/
def lessO {α : Type} (f : α → α → Bool) (x y : Option α) : Bool := match x with
  | none => true
  | some v => match y with
    | none => false
    | some u => f v u
def lessT {α : Type} (f : α → α → Bool) : T α → T α → Bool
  | .nil, _ => true
  | .node _ _ _ _ _, .nil => false
  | .node v a b c d, .node v' a' b' c' d' => lessO f v v' && (lessT f a a' && (lessT f b b' && (lessT f c c' && lessT f d d')))
theorem lessO_get {α : Type} {f : α → α → Bool} {x y : Option α} (h : lessO f x y = true) {v : α} (hv : x = some v) : ∃ u, y = some u ∧ f v u = true := by
  subst hv
  cases y with
  | none => cases h
  | some u => exact ⟨u, rfl, h⟩
theorem lessT_get {α : Type} {f : α → α → Bool} : ∀ (s t : T α), lessT f s t = true → ∀ (n : Nat) (v : α), s.get n = some v → ∃ u, t.get n = some u ∧ f v u = true := by
  intro s
  induction s with
  | nil => intro t h n v hv; cases hv
  | node x a b c d ia ib ic id =>
    intro t h n v hv
    cases t with
    | nil => cases h
    | node y a' b' c' d' =>
      unfold lessT at h
      simp only [Bool.and_eq_true] at h
      obtain ⟨h0, h1, h2, h3, h4⟩ := h
      cases n with
      | zero => exact lessO_get h0 hv
      | succ m =>
        rw [T.get_node_succ] at hv ⊢
        rcases mod4 m with e | e | e | e <;> rw [e] at hv ⊢
        · exact ia _ h1 _ _ hv
        · exact ib _ h2 _ _ hv
        · exact ic _ h3 _ _ hv
        · exact id _ h4 _ _ hv

def lessTy (x y : Option Nat) : Bool := match x with
  | none => true
  | some a => match y with
    | none => false
    | some b => Nat.beq a b
def impB (a b : Bool) : Bool := match a with
  | true => b
  | false => true
def lessInf (i j : Inf) : Bool := match i, j with
  | ⟨ty, z, wh, low⟩, ⟨ty', z', wh', low'⟩ => lessTy ty ty' && (impB z z' && (impB wh wh' && impB low low'))
def lessObj (x y : Obj) : Bool := match x, y with
  | .row cells n es fr inf, .row cells' n' es' fr' inf' => lessT eqCV cells cells' && (Nat.beq n n' && (Nat.beq es es' && (Nat.beq fr fr' && lessInf inf inf')))
  | .dead, _ => true
  | _, _ => false
theorem impB_ok {a b : Bool} (h : impB a b = true) (k : a = true) : b = true := by
  subst k
  exact h
theorem lessInf_ok {i j : Inf} (h : lessInf i j = true) {b : BI} {c : Array Value} {e : TypeId} {fz : Nat × Nat} {n fr : Nat} (k : InfOk j b c e fz n fr) : InfOk i b c e fz n fr := by
  obtain ⟨ty, z, wh, low⟩ := i
  obtain ⟨ty', z', wh', low'⟩ := j
  unfold lessInf at h
  simp only [Bool.and_eq_true] at h
  obtain ⟨h1, h2, h3, h4⟩ := h
  obtain ⟨k1, k2, k3, k4⟩ := k
  refine ⟨fun t ht => ?_, fun hz => k2 (impB_ok h2 hz), fun hz => k3 (impB_ok h3 hz), fun hz => k4 (impB_ok h4 hz)⟩
  simp only at ht
  subst ht
  cases ty' with
  | none => cases h1
  | some u =>
    have hu : t = u := Nat.eq_of_beq_eq_true h1
    exact k1 t (by rw [hu])
theorem lessObj_ok {sy : Sy} {B : Kp} {ρ : Ren} {w : World} {b : Nat} : ∀ {x y : Obj}, lessObj x y = true → ORel sy B ρ w b y → ORel sy B ρ w b x ∧ (owned x = true → owned y = true) := by
  intro x y h k
  cases x <;> try (first | exact ⟨trivial, fun h => by cases h⟩ | (cases y <;> cases h))
  rename_i cells n es fr inf
  cases y <;> try (cases h; done)
  rename_i cells' n' es' fr' inf'
  unfold lessObj at h
  simp only [Bool.and_eq_true] at h
  obtain ⟨h1, h2, h3, h4, h5⟩ := h
  have e2 := Nat.eq_of_beq_eq_true h2
  have e3 := Nat.eq_of_beq_eq_true h3
  have e4 := Nat.eq_of_beq_eq_true h4
  subst e2 e3 e4
  obtain ⟨i, c, e, fz, k1, k2, ⟨k3, k3'⟩, k4, k5, k6, k7⟩ := k
  refine ⟨⟨i, c, e, fz, k1, k2, ⟨k3, lessInf_ok h5 k3'⟩, k4, k5, fun j v hv => ?_, k7⟩, fun _ => rfl⟩
  obtain ⟨u, hu, he⟩ := lessT_get _ _ h1 j v hv
  rw [eqCV_eq _ _ he]
  exact k6 j u hu

def lessSt (s t : St) : Bool := match s, t with
  | ⟨h, n, d⟩, ⟨h', n', d'⟩ => Nat.beq n n' && (lessT lessObj h h' && (match d, d' with
    | [], [] => true
    | _, _ => false))
theorem WRel.less {sy : Sy} {G : Nat} {B : Kp} {w0 w : World} {ρ : Ren} {s t : St} (h : lessSt s t = true) (k : WRel sy G B w0 ρ t w) : WRel sy G B w0 ρ s w := by
  obtain ⟨hs, n, d⟩ := s
  obtain ⟨ht, m, d'⟩ := t
  unfold lessSt at h
  simp only [Bool.and_eq_true] at h
  obtain ⟨h1, h2, h3⟩ := h
  have e := Nat.eq_of_beq_eq_true h1
  subst e
  refine ⟨k.below, k.base, k.ro, k.gone, k.glob, k.dom, fun b o hb => ?_, fun b1 b2 o1 o2 i1 i2 g1 w1 g2 w2 r1 r2 e => ?_⟩
  · obtain ⟨o', ho', hl⟩ := lessT_get _ _ h2 b o hb
    exact (lessObj_ok hl (k.obj b o' ho')).1
  · obtain ⟨p1, q1, l1⟩ := lessT_get _ _ h2 b1 o1 g1
    obtain ⟨p2, q2, l2⟩ := lessT_get _ _ h2 b2 o2 g2
    exact k.inj b1 b2 p1 p2 i1 i2 q1 ((lessObj_ok l1 (k.obj b1 p1 q1)).2 w1) q2 ((lessObj_ok l2 (k.obj b2 p2 q2)).2 w2) r1 r2 e
theorem lessSt_dfs {s t : St} (h : lessSt s t = true) : s.dfs = t.dfs := by
  obtain ⟨hs, n, d⟩ := s
  obtain ⟨ht, m, d'⟩ := t
  unfold lessSt at h
  simp only [Bool.and_eq_true] at h
  obtain ⟨_, _, h3⟩ := h
  cases d <;> cases d' <;> first | rfl | cases h3

/-! ## The parts -/
noncomputable def partSays (E : List CV) (s : St) (r : R) : Bool := match headEnv r with
  | some (env, st) => keptE E env && lessSt s st
  | none => false
theorem partSays_ok {E : List CV} {s : St} {r : R} (h : partSays E s r = true) : ∃ env st, r = .ok .normal env st ∧ keptE E env = true ∧ lessSt s st = true := by
  unfold partSays at h
  cases r with
  | err m => cases h
  | ok e env st =>
    cases e <;> simp only [headEnv] at h <;> try (cases h; done)
    rw [Bool.and_eq_true] at h
    exact ⟨env, st, rfl, h.1, h.2⟩

/-- run from here, the rest of the function says 'true' -/
def From (sy : Sy) (P : Program) (G : Nat) (hint : Nat → List Nat) (orc : Orc) (n f : Nat) (fn : Func) (l : List Code) (E : List CV) (st : St) : Prop :=
  ∃ e2 env2 st2, saysTrue (endF P G hint ⟨hint f, fn.ntmps, G⟩ fn.results.toList (runO P G hint orc n) [] (.ok e2 env2 st2)) = true ∧
    ∀ (B : Kp) (w0 : World) (ρ : Ren) (a : Act) (w : World), SR sy G ⟨hint f, fn.ntmps, G⟩ ρ E .nil a → DRel sy ρ st.dfs a.defers → WRel sy G B w0 ρ st w →
      wpL P (PostC sy G B w0 ⟨hint f, fn.ntmps, G⟩ ρ e2 env2 st2) l a w

section
variable {sy : Sy} {P : Program} {G : Nat} {hint : Nat → List Nat} {orc : Orc} {n f : Nat} {fn : Func} {l : List Code} {E E2 : List CV} {st st2 : St}

theorem from_last (hm : P.follows .mixedOrders = true) (ho : OrcOk P orc)
    (h : saysTrue (endF P G hint ⟨hint f, fn.ntmps, G⟩ fn.results.toList (runO P G hint orc n) [] ((denL P ⟨hint f, fn.ntmps, G⟩ l).f (runO P G hint orc n) E st)) = true) : From sy P G hint orc n f fn l E st := by
  have hall : ∀ B w0, CallerSound sy G B w0 P (runO P G hint orc n) := fun B w0 => runO_ok (fun _ _ => draw_ok hm) hint ho n B w0
  have hden : ∀ B w0 c, Den sy G B w0 P ⟨hint f, fn.ntmps, G⟩ c ((den P ⟨hint f, fn.ntmps, G⟩ c).f (runO P G hint orc n)) := fun B w0 => den_ok hall (draw_ok hm _ _ hall)
  generalize hT : (denL P ⟨hint f, fn.ntmps, G⟩ l).f (runO P G hint orc n) E st = rt at h
  cases rt with
  | err m => cases h
  | ok e2 env2 st2 => exact ⟨e2, env2, st2, h, fun B w0 ρ a w hs hd hw => denL_ok (hden _ _) _ _ _ _ _ _ ρ _ w hT hs hd hw⟩

theorem from_step (hm : P.follows .mixedOrders = true) (ho : OrcOk P orc) (m : Nat)
    (h : partSays E2 st2 ((denL P ⟨hint f, fn.ntmps, G⟩ (l.take m)).f (runO P G hint orc n) E st) = true) (k : From sy P G hint orc n f fn (l.drop m) E2 st2) : From sy P G hint orc n f fn l E st := by
  have hall : ∀ B w0, CallerSound sy G B w0 P (runO P G hint orc n) := fun B w0 => runO_ok (fun _ _ => draw_ok hm) hint ho n B w0
  have hden : ∀ B w0 c, Den sy G B w0 P ⟨hint f, fn.ntmps, G⟩ c ((den P ⟨hint f, fn.ntmps, G⟩ c).f (runO P G hint orc n)) := fun B w0 => den_ok hall (draw_ok hm _ _ hall)
  obtain ⟨env1, st1, hT, hk, hl⟩ := partSays_ok h
  obtain ⟨e3, env3, st3, hend, hrest⟩ := k
  refine ⟨e3, env3, st3, hend, fun B w0 ρ a w hs hd hw => ?_⟩
  rw [← List.take_append_drop m l]
  refine wpL_join _ _ _ _ ?_
  refine wpL_mono (fun e' a' w' hp => ?_) _ _ _ (denL_ok (hden _ _) _ _ _ _ _ _ ρ _ w hT hs hd hw)
  obtain ⟨ρ1, hle, hex, hs1, hd1, hw1⟩ := hp
  simp only [ExRel] at hex
  subst hex
  have hs2 : SR sy G ⟨hint f, fn.ntmps, G⟩ ρ1 E2 .nil a' := hs1.less fun t => less_nth (keptE_less _ _ hk) t
  show wpL P _ _ a' w'
  exact wpL_mono (fun _ _ _ hp3 => hp3.mono hle) _ _ _ (hrest B w0 ρ1 a' w' hs2 (by rw [lessSt_dfs hl]; exact hd1) (hw1.less hl))

theorem from_calls {c : Code} {args : List CV} {args' : List Value} (hro : ∀ k, ¬ sy.ro k) (hm : P.follows .mixedOrders = true) (ho : OrcOk P orc)
    (hf : P.funcs[f]? = some fn) (hb : fn.body = some c) (hn : args.length ≤ fn.ntmps) (hargs : ∀ ρ, VRels sy ρ args args')
    (h : From sy P G hint orc n f fn (flat c) (initEnv (hint f) args) ⟨.nil, G, []⟩) (w : World) :
    Calls P f args'.toArray w fun e w' => e = .returned (.bool true) ∧ Below w.heap.size w w' := by
  have hw0 := wrel0 sy hro G w
  have hall : ∀ B w0, CallerSound sy G B w0 P (runO P G hint orc n) := fun B w0 => runO_ok (fun _ _ => draw_ok hm) hint ho n B w0
  have hsr := init_sr (G := G) (vars := hint f) (hargs (ren0 G)) hn
  obtain ⟨e2, env2, st2, hend, hrest⟩ := h
  generalize hR : endF P G hint ⟨hint f, fn.ntmps, G⟩ fn.results.toList (runO P G hint orc n) [] (.ok e2 env2 st2) = r at hend
  have hr : ∃ s, r = .ok (.bool true) s := by
    cases r with
    | err m => cases hend
    | pan v s => cases hend
    | ok v s =>
      cases v <;> first | (rename_i b; cases b <;> first | exact ⟨_, rfl⟩ | cases hend) | cases hend
  obtain ⟨s, rfl⟩ := hr
  refine Calls.mono (calls_of_wp_marks hf hb (R := RetR sy G ⟨fun k => k < w.heap.size, fun _ => False⟩ w (ren0 G) (.ok (.bool true) s)) ?_) fun e w' ⟨ρ', v', he, _, hv', hw⟩ => ?_
  · refine wp_flat _ _ _ _ ?_
    refine wpL_mono (fun e3 a3 w3 hp3 => ?_) _ _ _ (hrest _ _ (ren0 G) _ w hsr (by exact rfl) hw0)
    exact end_ok (draw_ok hm) hall hint (fun _ h => by cases h) hR hp3
  · simp only [VRel] at hv'
    subst hv'
    exact ⟨he, ⟨hw.below.os, hw.below.tape, hw.below.output, hw.below.size, hw.below.block⟩⟩
end
end Go.Proofs.YtbmbjaogcmokoaaGreatDoorX
