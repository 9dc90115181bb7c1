/- A function's body in several parts: each one is run from what is known behind the one ahead. A function's body in several parts, whatever it answers; calls whose answers are known from a state that is known. -/
import Derived.Test.YtbmbjaogcmokoaaGreatDoorX8
namespace Go.Proofs.YtbmbjaogcmokoaaGreatDoorX
open Go Go.RowKit
set_option linter.unusedVariables false

/-! ## What is known of a state: a part of it -/
def lessO {α : Type} (f : α → α → Bool) (x y : Option α) : Bool := match x with
  | none => true
  | some v => match y with
    | none => false
    | some u => f v u
def lessT {α : Type} (f : α → α → Bool) : T α → T α → Bool
  | .nil, _ => true
  | .node _ _ _ _ _, .nil => false
  | .node v a b c d, .node v' a' b' c' d' => lessO f v v' && (lessT f a a' && (lessT f b b' && (lessT f c c' && lessT f d d')))
theorem lessO_get {α : Type} {f : α → α → Bool} {x y : Option α} (h : lessO f x y = true) {v : α} (hv : x = some v) : ∃ u, y = some u ∧ f v u = true := by
  subst hv
  cases y with
  | none => cases h
  | some u => exact ⟨u, rfl, h⟩
theorem lessT_get {α : Type} {f : α → α → Bool} : ∀ (s t : T α), lessT f s t = true → ∀ (n : Nat) (v : α), s.get n = some v → ∃ u, t.get n = some u ∧ f v u = true := by
  intro s
  induction s with
  | nil => intro t h n v hv; cases hv
  | node x a b c d ia ib ic id =>
    intro t h n v hv
    cases t with
    | nil => cases h
    | node y a' b' c' d' =>
      unfold lessT at h
      simp only [Bool.and_eq_true] at h
      obtain ⟨h0, h1, h2, h3, h4⟩ := h
      cases n with
      | zero => exact lessO_get h0 hv
      | succ m =>
        rw [T.get_node_succ] at hv ⊢
        rcases mod4 m with e | e | e | e <;> rw [e] at hv ⊢
        · exact ia _ h1 _ _ hv
        · exact ib _ h2 _ _ hv
        · exact ic _ h3 _ _ hv
        · exact id _ h4 _ _ hv

def lessTy (x y : Option Nat) : Bool := match x with
  | none => true
  | some a => match y with
    | none => false
    | some b => Nat.beq a b
def impB (a b : Bool) : Bool := match a with
  | true => b
  | false => true
def lessInf (i j : Inf) : Bool := match i, j with
  | ⟨ty, z, wh, low⟩, ⟨ty', z', wh', low'⟩ => lessTy ty ty' && (impB z z' && (impB wh wh' && impB low low'))
def lessObj (x y : Obj) : Bool := match x, y with
  | .row cells n es fr inf, .row cells' n' es' fr' inf' => lessT eqCV cells cells' && (Nat.beq n n' && (Nat.beq es es' && (Nat.beq fr fr' && lessInf inf inf')))
  | .dead, _ => true
  | _, _ => false
theorem impB_ok {a b : Bool} (h : impB a b = true) (k : a = true) : b = true := by
  subst k
  exact h
theorem lessInf_ok {i j : Inf} (h : lessInf i j = true) {b : BI} {c : Array Value} {e : TypeId} {fz : Nat × Nat} {n fr : Nat} (k : InfOk j b c e fz n fr) : InfOk i b c e fz n fr := by
  obtain ⟨ty, z, wh, low⟩ := i
  obtain ⟨ty', z', wh', low'⟩ := j
  unfold lessInf at h
  simp only [Bool.and_eq_true] at h
  obtain ⟨h1, h2, h3, h4⟩ := h
  obtain ⟨k1, k2, k3, k4⟩ := k
  refine ⟨fun t ht => ?_, fun hz => k2 (impB_ok h2 hz), fun hz => k3 (impB_ok h3 hz), fun hz => k4 (impB_ok h4 hz)⟩
  simp only at ht
  subst ht
  cases ty' with
  | none => cases h1
  | some u =>
    have hu : t = u := Nat.eq_of_beq_eq_true h1
    exact k1 t (by rw [hu])
theorem lessObj_ok {sy : Sy} {B : Kp} {ρ : Ren} {w : World} {b : Nat} : ∀ {x y : Obj}, lessObj x y = true → ORel sy B ρ w b y → ORel sy B ρ w b x ∧ (owned x = true → owned y = true) := by
  intro x y h k
  cases x <;> try (first | exact ⟨trivial, fun h => by cases h⟩ | (cases y <;> cases h))
  rename_i cells n es fr inf
  cases y <;> try (cases h; done)
  rename_i cells' n' es' fr' inf'
  unfold lessObj at h
  simp only [Bool.and_eq_true] at h
  obtain ⟨h1, h2, h3, h4, h5⟩ := h
  have e2 := Nat.eq_of_beq_eq_true h2
  have e3 := Nat.eq_of_beq_eq_true h3
  have e4 := Nat.eq_of_beq_eq_true h4
  subst e2 e3 e4
  obtain ⟨i, c, e, fz, k1, k2, ⟨k3, k3'⟩, k4, k5, k6, k7⟩ := k
  refine ⟨⟨i, c, e, fz, k1, k2, ⟨k3, lessInf_ok h5 k3'⟩, k4, k5, fun j v hv => ?_, k7⟩, fun _ => rfl⟩
  obtain ⟨u, hu, he⟩ := lessT_get _ _ h1 j v hv
  rw [eqCV_eq _ _ he]
  exact k6 j u hu

def lessSt (s t : St) : Bool := match s, t with
  | ⟨h, n, d⟩, ⟨h', n', d'⟩ => Nat.beq n n' && (lessT lessObj h h' && (match d, d' with
    | [], [] => true
    | _, _ => false))
theorem WRel.less {sy : Sy} {G : Nat} {B : Kp} {w0 w : World} {ρ : Ren} {s t : St} (h : lessSt s t = true) (k : WRel sy G B w0 ρ t w) : WRel sy G B w0 ρ s w := by
  obtain ⟨hs, n, d⟩ := s
  obtain ⟨ht, m, d'⟩ := t
  unfold lessSt at h
  simp only [Bool.and_eq_true] at h
  obtain ⟨h1, h2, h3⟩ := h
  have e := Nat.eq_of_beq_eq_true h1
  subst e
  refine ⟨k.below, k.base, k.ro, k.gone, k.glob, k.dom, fun b o hb => ?_, fun b1 b2 o1 o2 i1 i2 g1 w1 g2 w2 r1 r2 e => ?_⟩
  · obtain ⟨o', ho', hl⟩ := lessT_get _ _ h2 b o hb
    exact (lessObj_ok hl (k.obj b o' ho')).1
  · obtain ⟨p1, q1, l1⟩ := lessT_get _ _ h2 b1 o1 g1
    obtain ⟨p2, q2, l2⟩ := lessT_get _ _ h2 b2 o2 g2
    exact k.inj b1 b2 p1 p2 i1 i2 q1 ((lessObj_ok l1 (k.obj b1 p1 q1)).2 w1) q2 ((lessObj_ok l2 (k.obj b2 p2 q2)).2 w2) r1 r2 e
theorem lessSt_dfs {s t : St} (h : lessSt s t = true) : s.dfs = t.dfs := by
  obtain ⟨hs, n, d⟩ := s
  obtain ⟨ht, m, d'⟩ := t
  unfold lessSt at h
  simp only [Bool.and_eq_true] at h
  obtain ⟨_, _, h3⟩ := h
  cases d <;> cases d' <;> first | rfl | cases h3

/-! ## The parts -/
noncomputable def partSays (E : List CV) (s : St) (r : R) : Bool := match headEnv r with
  | some (env, st) => keptE E env && lessSt s st
  | none => false
theorem partSays_ok {E : List CV} {s : St} {r : R} (h : partSays E s r = true) : ∃ env st, r = .ok .normal env st ∧ keptE E env = true ∧ lessSt s st = true := by
  unfold partSays at h
  cases r with
  | err m => cases h
  | ok e env st =>
    cases e <;> simp only [headEnv] at h <;> try (cases h; done)
    rw [Bool.and_eq_true] at h
    exact ⟨env, st, rfl, h.1, h.2⟩

/-- run from here, the rest of the function says 'true' -/
def From (sy : Sy) (P : Program) (G : Nat) (hint : Nat → List Nat) (orc : Orc) (n f : Nat) (fn : Func) (l : List Code) (E : List CV) (st : St) : Prop :=
  ∃ e2 env2 st2, saysTrue (endF P G hint ⟨hint f, fn.ntmps, G⟩ fn.results.toList (runO P G hint orc n) [] (.ok e2 env2 st2)) = true ∧
    ∀ (B : Kp) (w0 : World) (ρ : Ren) (a : Act) (w : World), SR sy G ⟨hint f, fn.ntmps, G⟩ ρ E .nil a → DRel sy ρ st.dfs a.defers → WRel sy G B w0 ρ st w →
      wpL P (PostC sy G B w0 ⟨hint f, fn.ntmps, G⟩ ρ e2 env2 st2) l a w

section
variable {sy : Sy} {P : Program} {G : Nat} {hint : Nat → List Nat} {orc : Orc} {n f : Nat} {fn : Func} {l : List Code} {E E2 : List CV} {st st2 : St}

theorem from_last (hm : P.follows .mixedOrders = true) (ho : OrcOk P orc)
    (h : saysTrue (endF P G hint ⟨hint f, fn.ntmps, G⟩ fn.results.toList (runO P G hint orc n) [] ((denL P ⟨hint f, fn.ntmps, G⟩ l).f (runO P G hint orc n) E st)) = true) : From sy P G hint orc n f fn l E st := by
  have hall : ∀ B w0, CallerSound sy G B w0 P (runO P G hint orc n) := fun B w0 => runO_ok (fun _ _ => draw_ok hm) hint ho n B w0
  have hden : ∀ B w0 c, Den sy G B w0 P ⟨hint f, fn.ntmps, G⟩ c ((den P ⟨hint f, fn.ntmps, G⟩ c).f (runO P G hint orc n)) := fun B w0 => den_ok hall (draw_ok hm _ _ hall)
  generalize hT : (denL P ⟨hint f, fn.ntmps, G⟩ l).f (runO P G hint orc n) E st = rt at h
  cases rt with
  | err m => cases h
  | ok e2 env2 st2 => exact ⟨e2, env2, st2, h, fun B w0 ρ a w hs hd hw => denL_ok (hden _ _) _ _ _ _ _ _ ρ _ w hT hs hd hw⟩

theorem from_step (hm : P.follows .mixedOrders = true) (ho : OrcOk P orc) (m : Nat)
    (h : partSays E2 st2 ((denL P ⟨hint f, fn.ntmps, G⟩ (l.take m)).f (runO P G hint orc n) E st) = true) (k : From sy P G hint orc n f fn (l.drop m) E2 st2) : From sy P G hint orc n f fn l E st := by
  have hall : ∀ B w0, CallerSound sy G B w0 P (runO P G hint orc n) := fun B w0 => runO_ok (fun _ _ => draw_ok hm) hint ho n B w0
  have hden : ∀ B w0 c, Den sy G B w0 P ⟨hint f, fn.ntmps, G⟩ c ((den P ⟨hint f, fn.ntmps, G⟩ c).f (runO P G hint orc n)) := fun B w0 => den_ok hall (draw_ok hm _ _ hall)
  obtain ⟨env1, st1, hT, hk, hl⟩ := partSays_ok h
  obtain ⟨e3, env3, st3, hend, hrest⟩ := k
  refine ⟨e3, env3, st3, hend, fun B w0 ρ a w hs hd hw => ?_⟩
  rw [← List.take_append_drop m l]
  refine wpL_join _ _ _ _ ?_
  refine wpL_mono (fun e' a' w' hp => ?_) _ _ _ (denL_ok (hden _ _) _ _ _ _ _ _ ρ _ w hT hs hd hw)
  obtain ⟨ρ1, hle, hex, hs1, hd1, hw1⟩ := hp
  simp only [ExRel] at hex
  subst hex
  have hs2 : SR sy G ⟨hint f, fn.ntmps, G⟩ ρ1 E2 .nil a' := hs1.less fun t => less_nth (keptE_less _ _ hk) t
  show wpL P _ _ a' w'
  exact wpL_mono (fun _ _ _ hp3 => hp3.mono hle) _ _ _ (hrest B w0 ρ1 a' w' hs2 (by rw [lessSt_dfs hl]; exact hd1) (hw1.less hl))

theorem from_calls {c : Code} {args : List CV} {args' : List Value} (hro : ∀ k, ¬ sy.ro k) (hm : P.follows .mixedOrders = true) (ho : OrcOk P orc)
    (hf : P.funcs[f]? = some fn) (hb : fn.body = some c) (hn : args.length ≤ fn.ntmps) (hargs : ∀ ρ, VRels sy ρ args args')
    (h : From sy P G hint orc n f fn (flat c) (initEnv (hint f) args) ⟨.nil, G, []⟩) (w : World) :
    Calls P f args'.toArray w fun e w' => e = .returned (.bool true) ∧ Below w.heap.size w w' := by
  have hw0 := wrel0 sy hro G w
  have hall : ∀ B w0, CallerSound sy G B w0 P (runO P G hint orc n) := fun B w0 => runO_ok (fun _ _ => draw_ok hm) hint ho n B w0
  have hsr := init_sr (G := G) (vars := hint f) (hargs (ren0 G)) hn
  obtain ⟨e2, env2, st2, hend, hrest⟩ := h
  generalize hR : endF P G hint ⟨hint f, fn.ntmps, G⟩ fn.results.toList (runO P G hint orc n) [] (.ok e2 env2 st2) = r at hend
  have hr : ∃ s, r = .ok (.bool true) s := by
    cases r with
    | err m => cases hend
    | pan v s => cases hend
    | ok v s =>
      cases v <;> first | (rename_i b; cases b <;> first | exact ⟨_, rfl⟩ | cases hend) | cases hend
  obtain ⟨s, rfl⟩ := hr
  refine Calls.mono (calls_of_wp_marks hf hb (R := RetR sy G ⟨fun k => k < w.heap.size, fun _ => False⟩ w (ren0 G) (.ok (.bool true) s)) ?_) fun e w' ⟨ρ', v', he, _, hv', hw⟩ => ?_
  · refine wp_flat _ _ _ _ ?_
    refine wpL_mono (fun e3 a3 w3 hp3 => ?_) _ _ _ (hrest _ _ (ren0 G) _ w hsr (by exact rfl) hw0)
    exact end_ok (draw_ok hm) hall hint (fun _ h => by cases h) hR hp3
  · simp only [VRel] at hv'
    subst hv'
    exact ⟨he, ⟨hw.below.os, hw.below.tape, hw.below.output, hw.below.size, hw.below.block⟩⟩
end
end Go.Proofs.YtbmbjaogcmokoaaGreatDoorX

namespace Go.Proofs.YtbmbjaogcmokoaaGreatDoorX
open Go Go.RowKit
set_option linter.unusedVariables false

/-! ## What is known of a state, whatever is deferred -/
def eqDfr (a b : Dfr) : Bool := match a, b with
  | ⟨f, x⟩, ⟨g, y⟩ => eqCV f g && eqCVs x y
def eqDfs : List Dfr → List Dfr → Bool
  | [], [] => true
  | a :: r, b :: s => eqDfr a b && eqDfs r s
  | _, _ => false
theorem eqDfs_eq : ∀ {l m : List Dfr}, eqDfs l m = true → l = m
  | [], [], _ => rfl
  | [], _ :: _, h => by cases h
  | _ :: _, [], h => by cases h
  | ⟨f, x⟩ :: r, ⟨g, y⟩ :: s, h => by
    unfold eqDfs at h
    rw [Bool.and_eq_true] at h
    have h1 : (eqCV f g && eqCVs x y) = true := h.1
    rw [Bool.and_eq_true] at h1
    rw [eqCV_eq _ _ h1.1, eqCVs_eq _ _ h1.2, eqDfs_eq h.2]
def lessHN (s t : St) : Bool := match s, t with
  | ⟨h, n, _⟩, ⟨h', n', _⟩ => Nat.beq n n' && lessT lessObj h h'
def lessSD (s t : St) : Bool := match s, t with
  | ⟨h, n, d⟩, ⟨h', n', d'⟩ => lessHN ⟨h, n, []⟩ ⟨h', n', []⟩ && eqDfs d d'
theorem WRel.lessHN {sy : Sy} {G : Nat} {B : Kp} {w0 w : World} {ρ : Ren} {s t : St} (h : lessHN s t = true) (k : WRel sy G B w0 ρ t w) : WRel sy G B w0 ρ s w := by
  obtain ⟨hs, n, d⟩ := s
  obtain ⟨ht, m, d'⟩ := t
  have h' : (Nat.beq n m && lessT lessObj hs ht) = true := h
  rw [Bool.and_eq_true] at h'
  have hl : lessSt ⟨hs, n, []⟩ ⟨ht, m, []⟩ = true := by
    unfold lessSt
    simp only [Bool.and_eq_true]
    exact ⟨h'.1, h'.2, trivial⟩
  exact (WRel.less hl (k.dfs (d' := []))).dfs
theorem lessSD_ok {s t : St} (h : lessSD s t = true) : Go.Proofs.YtbmbjaogcmokoaaGreatDoorX.lessHN s t = true ∧ s.dfs = t.dfs := by
  obtain ⟨hs, n, d⟩ := s
  obtain ⟨ht, m, d'⟩ := t
  have h' : (Go.Proofs.YtbmbjaogcmokoaaGreatDoorX.lessHN ⟨hs, n, []⟩ ⟨ht, m, []⟩ && eqDfs d d') = true := h
  rw [Bool.and_eq_true] at h'
  exact ⟨h'.1, eqDfs_eq h'.2⟩

def leV1 (x y : CV) : Bool := match x with
  | .unk => true
  | _ => eqCV x y
theorem leV1_rel {sy : Sy} {ρ : Ren} {x y : CV} {v : Value} (h : leV1 x y = true) (k : VRel sy ρ y v) : VRel sy ρ x v := by
  by_cases hx : x = .unk
  · subst hx; simp only [VRel]
  · have : eqCV x y = true := by
      unfold leV1 at h
      split at h
      · exact absurd rfl hx
      · exact h
    rw [eqCV_eq _ _ this]
    exact k
def leVs : List CV → List CV → Bool
  | [], [] => true
  | x :: r, y :: s => leV1 x y && leVs r s
  | _, _ => false
theorem leVs_rel {sy : Sy} {ρ : Ren} : ∀ {l m : List CV} {vs : List Value}, leVs l m = true → VRels sy ρ m vs → VRels sy ρ l vs
  | [], [], _, _, k => k
  | [], _ :: _, _, h, _ => by cases h
  | _ :: _, [], _, h, _ => by cases h
  | x :: r, y :: s, vs, h, k => by
    unfold leVs at h
    rw [Bool.and_eq_true] at h
    simp only [VRels] at k
    obtain ⟨v, vs', rfl, k1, k2⟩ := k
    exact VRels.cons (leV1_rel h.1 k1) (leVs_rel h.2 k2)
def leRV (r r' : RV) : Bool := match r, r' with
  | .ok v s, .ok v' s' => leV1 v v' && lessHN s s'
  | .pan v s, .pan v' s' => leV1 v v' && lessHN s s'
  | _, _ => false
theorem RetR.less {sy : Sy} {G : Nat} {B : Kp} {w0 w : World} {ρ : Ren} {r r' : RV} {e : Ending} (h : leRV r r' = true) (k : RetR sy G B w0 ρ r' e w) : RetR sy G B w0 ρ r e w := by
  cases r <;> cases r' <;> try (cases h; done)
  all_goals
    unfold leRV at h
    rw [Bool.and_eq_true] at h
    obtain ⟨ρ', v', e1, e2, e3, e4⟩ := k
    exact ⟨ρ', v', e1, e2, leV1_rel h.1 e3, e4.lessHN h.2⟩
theorem RetR.mono {sy : Sy} {G : Nat} {B : Kp} {w0 w : World} {ρ ρ1 : Ren} {r : RV} {e : Ending} (h : ρ.le ρ1) (k : RetR sy G B w0 ρ1 r e w) : RetR sy G B w0 ρ r e w := by
  cases r
  · trivial
  all_goals
    obtain ⟨ρ', v', e1, e2, e3⟩ := k
    exact ⟨ρ', v', e1, Ren.le_trans h e2, e3⟩
theorem LeavesM.mono {P : Program} {fn : Func} {tmps : Array Value} {R R' : Ending → World → Prop} (h : ∀ e w, R e w → R' e w) : ∀ (ds : List Deferred) (u : FrameMode) (w : World), LeavesM P fn tmps R ds u w → LeavesM P fn tmps R' ds u w
  | [], u, w, k => by
    cases u with
    | run => exact k
    | returning => obtain ⟨v, k1, k2⟩ := k; exact ⟨v, k1, h _ _ k2⟩
    | panicking chain => exact h _ _ k
  | d :: ds, u, w, k => by
    obtain ⟨k0, k⟩ := k
    refine ⟨k0, ?_⟩
    rcases k with ⟨r, w', k1, k2, k3⟩ | ⟨fv, cap, f, args, k1, k2, k3⟩
    · exact .inl ⟨r, w', k1, k2, LeavesM.mono h ds u w' k3⟩
    · refine .inr ⟨fv, cap, f, args, k1, k2, k3.mono fun e u' w' q => ?_⟩
      cases e with
      | returned v => exact LeavesM.mono h ds _ _ q
      | panicked c => exact LeavesM.mono h ds _ _ q
      | outgrown => exact h _ _ q
theorem bodyPostM_mono {P : Program} {fn : Func} {R R' : Ending → World → Prop} (h : ∀ e w, R e w → R' e w) {e : Exit} {a : Act} {w : World} (k : bodyPostM P fn R e a w) : bodyPostM P fn R' e a w := by
  cases e with
  | normal => exact LeavesM.mono h _ _ _ k
  | ret => exact LeavesM.mono h _ _ _ k
  | panic c => exact LeavesM.mono h _ _ _ k
  | outgrown => exact h _ _ k
  | exit id => exact k
  | goto l => exact k

/-! ## The parts -/
/-- run from here, the rest of the function answers so -/
def Fin (sy : Sy) (P : Program) (G : Nat) (hint : Nat → List Nat) (f : Nat) (fn : Func) (l : List Code) (E : List CV) (st : St) (r : RV) : Prop :=
  ∀ (B : Kp) (w0 : World) (ρ : Ren) (a : Act) (w : World), SR sy G ⟨hint f, fn.ntmps, G⟩ ρ E .nil a → DRel sy ρ st.dfs a.defers → WRel sy G B w0 ρ st w →
      wpL P (bodyPostM P fn (RetR sy G B w0 ρ r)) l a w
noncomputable def partSD (E : List CV) (s : St) (r : R) : Bool := match headEnv r with
  | some (env, st) => keptE E env && lessSD s st
  | none => false
theorem partSD_ok {E : List CV} {s : St} {r : R} (h : partSD E s r = true) : ∃ env st, r = .ok .normal env st ∧ keptE E env = true ∧ lessSD s st = true := by
  unfold partSD at h
  cases r with
  | err m => cases h
  | ok e env st =>
    cases e <;> simp only [headEnv] at h <;> try (cases h; done)
    rw [Bool.and_eq_true] at h
    exact ⟨env, st, rfl, h.1, h.2⟩

section
variable {sy : Sy} {P : Program} {G : Nat} {hint : Nat → List Nat} {call : Caller} {f : Nat} {fn : Func} {l : List Code} {E E2 : List CV} {st st2 : St} {r : RV}

theorem fin_less {r' : RV} (h : leRV r r' = true) (k : Fin sy P G hint f fn l E st r') : Fin sy P G hint f fn l E st r :=
  fun B w0 ρ a w hs hd hw => wpL_mono (fun _ _ _ q => bodyPostM_mono (fun _ _ q => q.less h) q) _ _ _ (k B w0 ρ a w hs hd hw)

theorem fin_last (hm : P.follows .mixedOrders = true) (hall : ∀ B w0, CallerSound sy G B w0 P call)
    (h : leRV r (endF P G hint ⟨hint f, fn.ntmps, G⟩ fn.results.toList call [] ((denL P ⟨hint f, fn.ntmps, G⟩ l).f call E st)) = true) : Fin sy P G hint f fn l E st r := by
  have hden : ∀ B w0 c, Den sy G B w0 P ⟨hint f, fn.ntmps, G⟩ c ((den P ⟨hint f, fn.ntmps, G⟩ c).f call) := fun B w0 => den_ok hall (draw_ok hm _ _ hall)
  refine fin_less h ?_
  generalize hT : (denL P ⟨hint f, fn.ntmps, G⟩ l).f call E st = rt at h
  cases rt with
  | err m => cases r <;> cases h
  | ok e2 env2 st2 =>
    refine fun B w0 ρ a w hs hd hw => wpL_mono (fun e' a' w' hp => end_ok (draw_ok hm) hall hint (fun k hk => ?_) rfl hp) _ _ _ (denL_ok (hden _ _) _ _ _ _ _ _ ρ _ w hT hs hd hw)
    rw [hk] at h
    cases r <;> cases h

theorem fin_step (hm : P.follows .mixedOrders = true) (hall : ∀ B w0, CallerSound sy G B w0 P call) (m : Nat)
    (h : partSD E2 st2 ((denL P ⟨hint f, fn.ntmps, G⟩ (l.take m)).f call E st) = true) (k : Fin sy P G hint f fn (l.drop m) E2 st2 r) : Fin sy P G hint f fn l E st r := by
  have hden : ∀ B w0 c, Den sy G B w0 P ⟨hint f, fn.ntmps, G⟩ c ((den P ⟨hint f, fn.ntmps, G⟩ c).f call) := fun B w0 => den_ok hall (draw_ok hm _ _ hall)
  obtain ⟨env1, st1, hT, hk, hl⟩ := partSD_ok h
  obtain ⟨hl1, hl2⟩ := lessSD_ok hl
  intro B w0 ρ a w hs hd hw
  rw [← List.take_append_drop m l]
  refine wpL_join _ _ _ _ ?_
  refine wpL_mono (fun e' a' w' hp => ?_) _ _ _ (denL_ok (hden _ _) _ _ _ _ _ _ ρ _ w hT hs hd hw)
  obtain ⟨ρ1, hle, hex, hs1, hd1, hw1⟩ := hp
  simp only [ExRel] at hex
  subst hex
  have hs2 : SR sy G ⟨hint f, fn.ntmps, G⟩ ρ1 E2 .nil a' := hs1.less fun t => less_nth (keptE_less _ _ hk) t
  show wpL P _ _ a' w'
  exact wpL_mono (fun _ _ _ q => bodyPostM_mono (fun _ _ q => q.mono hle) q) _ _ _ (k B w0 ρ1 a' w' hs2 (by rw [hl2]; exact hd1) (hw1.lessHN hl1))

/-! ## A law's last word -/
def FinT (sy : Sy) (P : Program) (G : Nat) (hint : Nat → List Nat) (f : Nat) (fn : Func) (l : List Code) (E : List CV) (st : St) : Prop := ∃ s, Fin sy P G hint f fn l E st (.ok (.bool true) s)
theorem finT_step (hm : P.follows .mixedOrders = true) (hall : ∀ B w0, CallerSound sy G B w0 P call) (m : Nat)
    (h : partSD E2 st2 ((denL P ⟨hint f, fn.ntmps, G⟩ (l.take m)).f call E st) = true) (k : FinT sy P G hint f fn (l.drop m) E2 st2) : FinT sy P G hint f fn l E st := by
  obtain ⟨s, k⟩ := k
  exact ⟨s, fin_step hm hall m h k⟩
theorem leT_refl {α : Type} {g : α → α → Bool} (hg : ∀ x, g x x = true) : ∀ t : T α, lessT g t t = true := by
  intro t
  induction t with
  | nil => rfl
  | node v a b c d ia ib ic id =>
    unfold lessT
    rw [ia, ib, ic, id]
    cases v with
    | none => rfl
    | some x => simp [lessO, hg]
theorem finT_last (hm : P.follows .mixedOrders = true) (hall : ∀ B w0, CallerSound sy G B w0 P call)
    (h : saysTrue (endF P G hint ⟨hint f, fn.ntmps, G⟩ fn.results.toList call [] ((denL P ⟨hint f, fn.ntmps, G⟩ l).f call E st)) = true) : FinT sy P G hint f fn l E st := by
  generalize hR : endF P G hint ⟨hint f, fn.ntmps, G⟩ fn.results.toList call [] ((denL P ⟨hint f, fn.ntmps, G⟩ l).f call E st) = r at h
  have hr : ∃ s, r = .ok (.bool true) s := by
    cases r with
    | err m => cases h
    | pan v s => cases h
    | ok v s => cases v <;> first | (rename_i b; cases b <;> first | exact ⟨_, rfl⟩ | cases h) | cases h
  obtain ⟨⟨hp, n, d⟩, rfl⟩ := hr
  refine ⟨⟨.nil, n, []⟩, fin_last hm hall (call := call) ?_⟩
  rw [hR]
  show (eqCV (.bool true) (.bool true) && (Nat.beq n n && lessT lessObj .nil hp)) = true
  rw [Nat.beq_refl]
  rfl
theorem from_finT {orc : Orc} {n : Nat} (hm : P.follows .mixedOrders = true) (ho : OrcOk P orc) (k : From sy P G hint orc n f fn l E st) : FinT sy P G hint f fn l E st := by
  have hall : ∀ B w0, CallerSound sy G B w0 P (runO P G hint orc n) := fun B w0 => runO_ok (fun _ _ => draw_ok hm) hint ho n B w0
  obtain ⟨e2, env2, st2, hend, hrest⟩ := k
  generalize hR : endF P G hint ⟨hint f, fn.ntmps, G⟩ fn.results.toList (runO P G hint orc n) [] (.ok e2 env2 st2) = r at hend
  have hr : ∃ s, r = .ok (.bool true) s := by
    cases r with
    | err m => cases hend
    | pan v s => cases hend
    | ok v s => cases v <;> first | (rename_i b; cases b <;> first | exact ⟨_, rfl⟩ | cases hend) | cases hend
  obtain ⟨s, rfl⟩ := hr
  exact ⟨s, fun B w0 ρ a w hs hd hw => wpL_mono (fun e' a' w' hp => end_ok (draw_ok hm) hall hint (fun _ h => by cases h) hR hp) _ _ _ (hrest B w0 ρ a w hs hd hw)⟩
theorem finT_calls {c : Code} {args : List CV} {args' : List Value} (hro : ∀ k, ¬ sy.ro k)
    (hf : P.funcs[f]? = some fn) (hb : fn.body = some c) (hn : args.length ≤ fn.ntmps) (hargs : ∀ ρ, VRels sy ρ args args')
    (h : FinT sy P G hint f fn (flat c) (initEnv (hint f) args) ⟨.nil, G, []⟩) (w : World) :
    Calls P f args'.toArray w fun e w' => e = .returned (.bool true) ∧ Below w.heap.size w w' := by
  obtain ⟨s, h⟩ := h
  have hw0 := wrel0 sy hro G w
  have hsr := init_sr (G := G) (vars := hint f) (hargs (ren0 G)) hn
  refine Calls.mono (calls_of_wp_marks hf hb (R := RetR sy G ⟨fun k => k < w.heap.size, fun _ => False⟩ w (ren0 G) (.ok (.bool true) s)) (wp_flat _ _ _ _ (h _ _ (ren0 G) _ w hsr (by exact rfl) hw0))) fun e w' ⟨ρ', v', he, _, hv', hw⟩ => ?_
  simp only [VRel] at hv'
  subst hv'
  exact ⟨he, ⟨hw.below.os, hw.below.tape, hw.below.output, hw.below.size, hw.below.block⟩⟩
end

theorem callO_all {sy : Sy} {P : Program} {G : Nat} {hint : Nat → List Nat} {orc : Orc} (hm : P.follows .mixedOrders = true) (ho : OrcOk P orc) (n : Nat) : ∀ B w0, CallerSound sy G B w0 P (runO P G hint orc n) :=
  fun B w0 => runO_ok (fun _ _ => draw_ok hm) hint ho n B w0

/-! ## Calls that are known from a state -/
structure Sum where
  fn : Nat
  args : List CV
  st : St
  r : RV
def SumOk (sy : Sy) (P : Program) (G : Nat) (s : Sum) : Prop := ∀ (B : Kp) (w0 : World) (ρ : Ren) (args' : List Value) (w : World), VRels sy ρ s.args args' → WRel sy G B w0 ρ s.st w →
  Calls P s.fn args'.toArray w (RetR sy G B w0 ρ s.r)
theorem sum_of_fin {sy : Sy} {P : Program} {G : Nat} {hint : Nat → List Nat} {f : Nat} {fn : Func} {c : Code} {args : List CV} {h : T Obj} {n : Nat} {r : RV}
    (hf : P.funcs[f]? = some fn) (hb : fn.body = some c) (hn : args.length ≤ fn.ntmps) (k : Fin sy P G hint f fn (flat c) (initEnv (hint f) args) ⟨h, n, []⟩ r) : SumOk sy P G ⟨f, args, ⟨h, n, []⟩, r⟩ :=
  fun B w0 ρ args' w hargs hw => calls_of_wp_marks hf hb (wp_flat _ _ _ _ (k B w0 ρ _ w (init_sr hargs hn) (by exact rfl) hw))

abbrev OrcS := Nat → Option (Box (List CV → St → Option RV))
/-! what lies beside the rows that a call knows stays as it is -/
def pickO (x0 x1 x : Option Obj) : Option Obj := match x0 with
  | some _ => x1
  | none => match x1 with
    | some o => some o
    | none => x
def partV (t : T Obj) : Option Obj := match t with | .nil => none | .node v _ _ _ _ => v
def partA (t : T Obj) : T Obj := match t with | .nil => .nil | .node _ a _ _ _ => a
def partB (t : T Obj) : T Obj := match t with | .nil => .nil | .node _ _ b _ _ => b
def partC (t : T Obj) : T Obj := match t with | .nil => .nil | .node _ _ _ c _ => c
def partD (t : T Obj) : T Obj := match t with | .nil => .nil | .node _ _ _ _ d => d
noncomputable def merge (t : T Obj) : T Obj → T Obj → T Obj :=
  T.rec (motive := fun _ => T Obj → T Obj → T Obj) (fun _ s1 => s1)
    (fun v _ _ _ _ ma mb mc md s0 s1 => .node (pickO (partV s0) (partV s1) v) (ma (partA s0) (partA s1)) (mb (partB s0) (partB s1)) (mc (partC s0) (partC s1)) (md (partD s0) (partD s1))) t
theorem get_nil_parts (t : T Obj) : (t.get 0 = partV t) ∧ ∀ m, t.get (m + 1) = T.pick ((partA t).get) ((partB t).get) ((partC t).get) ((partD t).get) (m % 4) (m / 4) := by
  cases t with
  | nil =>
    refine ⟨rfl, fun m => ?_⟩
    rcases mod4 m with e | e | e | e <;> rw [e] <;> rfl
  | node v a b c d => exact ⟨rfl, fun m => by rw [T.get_node_succ]; rfl⟩
theorem merge_get : ∀ (t s0 s1 : T Obj) (n : Nat), (merge t s0 s1).get n = pickO (s0.get n) (s1.get n) (t.get n) := by
  intro t
  induction t with
  | nil =>
    intro s0 s1 n
    show s1.get n = pickO (s0.get n) (s1.get n) none
    cases s0.get n <;> cases s1.get n <;> rfl
  | node v a b c d ia ib ic id =>
    intro s0 s1 n
    cases n with
    | zero =>
      rw [(get_nil_parts s0).1, (get_nil_parts s1).1]
      rfl
    | succ m =>
      rw [(get_nil_parts s0).2, (get_nil_parts s1).2, T.get_node_succ]
      show (T.node (pickO (partV s0) (partV s1) v) (merge a (partA s0) (partA s1)) (merge b (partB s0) (partB s1)) (merge c (partC s0) (partC s1)) (merge d (partD s0) (partD s1))).get (m + 1) = _
      rw [T.get_node_succ]
      rcases mod4 m with e | e | e | e <;> rw [e]
      · exact ia _ _ _
      · exact ib _ _ _
      · exact ic _ _ _
      · exact id _ _ _
noncomputable def putM (s0 st : St) (r : RV) : RV := match r with
  | .ok v s => match s0, st, s with
    | ⟨h0, _, _⟩, ⟨h, _, d⟩, ⟨h1, n, _⟩ => .ok v ⟨merge h h0 h1, n, d⟩
  | .pan v s => match s0, st, s with
    | ⟨h0, _, _⟩, ⟨h, _, d⟩, ⟨h1, n, _⟩ => .pan v ⟨merge h h0 h1, n, d⟩
  | .err n => .err n
noncomputable def findS (f : Nat) (args : List CV) (st : St) (l : List Sum) : Option RV := match l with
  | [] => none
  | p :: q => match p with
    | ⟨g, as, s, r⟩ => bif Nat.beq g f && leVs as args then (bif lessHN s st then some (putM s st r) else some (.err 131)) else findS f args st q
/-- the blocks of rows that a call doesn't know -/
def Kp.beside (B : Kp) (ρ : Ren) (h h0 : T Obj) : Kp := ⟨fun k => B.blk k ∨ ∃ b o i, h.get b = some o ∧ owned o = true ∧ h0.get b = none ∧ ρ b = some i ∧ k = i.blk, B.no⟩
theorem lessT_none {α : Type} {g : α → α → Bool} {s t : T α} (h : lessT g s t = true) {n : Nat} {v : α} (hv : s.get n = some v) : ∃ u, t.get n = some u ∧ g v u = true := lessT_get _ _ h n v hv
theorem ORel.beside {sy : Sy} {B : Kp} {B' : Kp} {ρ : Ren} {w : World} {b : Nat} {o : Obj} (h : ORel sy B ρ w b o) (hne : ∀ i, owned o = true → ρ b = some i → ¬ B i.blk → ¬ B' i.blk) : ORel sy B' ρ w b o := by
  cases o with
  | row cells n es fr inf =>
    obtain ⟨i, c, e, fz, k1, k2, k3⟩ := h
    exact ⟨i, c, e, fz, k1, hne i rfl k1 k2, k3⟩
  | ro cells n => exact h
  | map es clock =>
    obtain ⟨i, es', k1, k2, k3⟩ := h
    exact ⟨i, es', k1, hne i rfl k1 k2, k3⟩
  | siter l n p =>
    obtain ⟨i, k1, k2, k3⟩ := h
    exact ⟨i, k1, hne i rfl k1 k2, k3⟩
  | miter m since seen stepped =>
    obtain ⟨i, m', k1, k2, k3⟩ := h
    exact ⟨i, m', k1, hne i rfl k1 k2, k3⟩
  | coll =>
    obtain ⟨i, k1, k2, k3⟩ := h
    exact ⟨i, k1, hne i rfl k1 k2, k3⟩
  | dead => trivial
section
variable {sy : Sy} {G : Nat} {B : Kp} {w0 w w' : World} {ρ ρ' : Ren}
theorem WRel.beside {h h0 : T Obj} {n n0 : Nat} {d d0 : List Dfr} (hl : Go.Proofs.YtbmbjaogcmokoaaGreatDoorX.lessHN ⟨h0, n0, d0⟩ ⟨h, n, d⟩ = true) (k : WRel sy G B w0 ρ ⟨h, n, d⟩ w) : WRel sy G (B.beside ρ h h0) w ρ ⟨h0, n0, d0⟩ w := by
  have hs := k.lessHN hl
  have hl' : (Nat.beq n0 n && lessT lessObj h0 h) = true := hl
  rw [Bool.and_eq_true] at hl'
  exact {
    below := Kept.refl _ _
    base := fun j hj => by
      rcases hj with hj | ⟨b, o, i, h1, h2, h3, h4, rfl⟩
      · exact k.base j hj
      · obtain ⟨i', q1, _, q3⟩ := (k.obj b o h1).own h2
        rw [h4] at q1; cases q1
        exact q3
    ro := fun j hj => .inl (k.ro j hj)
    gone := hs.gone
    glob := hs.glob
    dom := hs.dom
    obj := fun b o hb => (hs.obj b o hb).beside fun i ho hi hB hB' => by
      obtain ⟨u, hu, hou⟩ := lessT_get _ _ hl'.2 b o hb
      have huo := (lessObj_ok hou (k.obj b u hu)).2 ho
      rcases hB' with q | ⟨b2, o2, i2, q1, q2, q3, q4, q5⟩
      · exact hB q
      · have := k.inj b b2 u o2 i i2 hu huo q1 q2 hi q4 q5
        subst this
        rw [hb] at q3
        cases q3
    inj := hs.inj }
theorem WRel.merged {h h0 h1 : T Obj} {n n0 n1 : Nat} {d d0 d1 : List Dfr} (hl : Go.Proofs.YtbmbjaogcmokoaaGreatDoorX.lessHN ⟨h0, n0, d0⟩ ⟨h, n, d⟩ = true) (k : WRel sy G B w0 ρ ⟨h, n, d⟩ w) (hle : ρ.le ρ') (q : WRel sy G (B.beside ρ h h0) w ρ' ⟨h1, n1, d1⟩ w') :
    WRel sy G B w0 ρ' ⟨merge h h0 h1, n1, d⟩ w' := by
  have hkept : Kept B w0 w' := k.below.trans ⟨q.below.os, q.below.tape, q.below.output, q.below.size, fun j hj => q.below.block j (.inl hj)⟩
  have from1 : ∀ {b o}, h1.get b = some o → ORel sy B ρ' w' b o := fun {b o} hb => (q.obj b o hb).beside fun i _ _ hB hB' => hB (.inl hB')
  have extra : ∀ {b o}, h0.get b = none → h.get b = some o → ORel sy B ρ' w' b o := fun {b o} h0b hb => by
    have hx := k.obj b o hb
    by_cases hdead : o = .dead
    · subst hdead; trivial
    refine (hx.of_block fun i hi => ?_).mono hle
    by_cases ho : owned o = true
    · exact q.below.block _ (.inr ⟨b, o, i, hb, ho, h0b, hi, rfl⟩)
    · cases o <;> simp [owned] at ho
      · obtain ⟨i', c, e, fz, q1, q2, _⟩ := hx
        rw [hi] at q1; cases q1
        exact q.below.block _ (.inl (k.ro _ q2))
      · exact absurd rfl hdead
  have split : ∀ {b o}, (merge h h0 h1).get b = some o → h1.get b = some o ∨ (h0.get b = none ∧ h.get b = some o) := fun {b o} hb => by
    rw [merge_get] at hb
    unfold pickO at hb
    cases e0 : h0.get b with
    | some x => rw [e0] at hb; exact .inl hb
    | none =>
      rw [e0] at hb
      cases e1 : h1.get b with
      | some x => rw [e1] at hb; exact .inl hb
      | none => rw [e1] at hb; exact .inr ⟨rfl, hb⟩
  have own2 : ∀ {b o i}, h0.get b = none → h.get b = some o → owned o = true → ρ' b = some i → ρ b = some i ∧ (B.beside ρ h h0) i.blk := fun {b o i} h0b hb ho hi => by
    obtain ⟨i', q1, _, _⟩ := (k.obj b o hb).own ho
    have := hle _ _ q1
    rw [hi] at this; cases this
    exact ⟨q1, .inr ⟨b, o, i, hb, ho, h0b, q1, rfl⟩⟩
  have own1 : ∀ {b o i}, h1.get b = some o → owned o = true → ρ' b = some i → ¬ (B.beside ρ h h0) i.blk := fun {b o i} hb ho hi => by
    obtain ⟨i', q1, q2, _⟩ := (q.obj b o hb).own ho
    rw [hi] at q1; cases q1
    exact q2
  exact {
    below := hkept
    base := fun j hj => Nat.lt_of_lt_of_le (k.base j hj) q.below.size
    ro := k.ro
    gone := q.gone
    glob := q.glob
    dom := q.dom
    obj := fun b o hb => by
      rcases split hb with h | ⟨h2, h3⟩
      · exact from1 h
      · exact extra h2 h3
    inj := fun b1 b2 o1 o2 i1 i2 g1 w1 g2 w2 r1 r2 e => by
      rcases split g1 with h | ⟨h2, h3⟩ <;> rcases split g2 with h' | ⟨h2', h3'⟩
      · exact q.inj b1 b2 o1 o2 i1 i2 h w1 h' w2 r1 r2 e
      · exact absurd (e ▸ (own2 h2' h3' w2 r2).2) (own1 h w1 r1)
      · exact absurd (e ▸ (own2 h2 h3 w1 r1).2) (own1 h' w2 r2)
      · exact k.inj b1 b2 o1 o2 i1 i2 h3 w1 h3' w2 (own2 h2 h3 w1 r1).1 (own2 h2' h3' w2 r2).1 e }
end
def someS (f : Nat) (l : List Sum) : Bool := match l with
  | [] => false
  | p :: r => match p with
    | ⟨g, _, _, _⟩ => Nat.beq g f || someS f r
noncomputable def orcS (ks : List Known) (l : List Sum) : OrcS := fun f => match someK f ks || someS f l with
  | true => some ⟨fun args st => match findK f args ks with
    | some v => some (.ok v st)
    | none => findS f args st l⟩
  | false => none
/-- a run where some functions' answers are known, from states that are known -/
noncomputable def runS (P : Program) (G : Nat) (hint : Nat → List Nat) (orc : OrcS) (n : Nat) : Caller :=
  Nat.rec (motive := fun _ => Caller) (fun _ _ _ => .err 126) (fun _ ih f args st => match orc f with
    | some g => match g.f args st with
      | some r => r
      | none => (funF P G hint f).f ih args st
    | none => (funF P G hint f).f ih args st) n
def OrcSOk (sy : Sy) (P : Program) (G : Nat) (orc : OrcS) : Prop := ∀ f g, orc f = some g → ∀ args st r, g.f args st = some r → ∀ (B : Kp) (w0 : World) (ρ : Ren) (args' : List Value) (w : World),
  VRels sy ρ args args' → WRel sy G B w0 ρ st w → RetOk sy G B w0 P ρ f args' st w r
theorem runS_ok {sy : Sy} {P : Program} {G : Nat} (hdraw : ∀ B w0, DrawOk sy G B w0 P) (hint : Nat → List Nat) {orc : OrcS} (ho : OrcSOk sy P G orc) : ∀ n B w0, CallerSound sy G B w0 P (runS P G hint orc n)
  | 0 => fun B w0 f args st ρ w args' _ _ _ => trivial
  | n + 1 => fun B w0 f args st ρ w args' hargs hw hen => by
    have e : runS P G hint orc (n + 1) f args st = (match orc f with
      | some g => match g.f args st with
        | some r => r
        | none => (funF P G hint f).f (runS P G hint orc n) args st
      | none => (funF P G hint f).f (runS P G hint orc n) args st) := rfl
    rw [e]
    cases hf : orc f with
    | none => exact fun_ok (hdraw B w0) (runS_ok hdraw hint ho n) hint f args st ρ w args' hargs hw hen
    | some g =>
      simp only
      cases hv : g.f args st with
      | none => exact fun_ok (hdraw B w0) (runS_ok hdraw hint ho n) hint f args st ρ w args' hargs hw hen
      | some r => exact ho f g hf args st r hv B w0 ρ args' w hargs hw
theorem findS_spec {f : Nat} {args : List CV} {st : St} {r : RV} : ∀ (l : List Sum), findS f args st l = some r → (∃ n, r = .err n) ∨ ∃ p ∈ l, p.fn = f ∧ leVs p.args args = true ∧ lessHN p.st st = true ∧ r = putM p.st st p.r
  | [], h => by cases h
  | ⟨g, as, s, q⟩ :: l, h => by
    unfold findS at h
    simp only at h
    cases hb : Nat.beq g f && leVs as args with
    | true =>
      rw [hb] at h
      simp only [cond_true] at h
      rw [Bool.and_eq_true] at hb
      cases hl : lessHN s st with
      | true =>
        rw [hl] at h
        cases h
        exact .inr ⟨⟨g, as, s, q⟩, by simp, Nat.eq_of_beq_eq_true hb.1, hb.2, hl, rfl⟩
      | false =>
        rw [hl] at h
        cases h
        exact .inl ⟨_, rfl⟩
    | false =>
      rw [hb] at h
      rcases findS_spec l h with k | ⟨p, hp, k⟩
      · exact .inl k
      · exact .inr ⟨p, by simp [hp], k⟩
theorem orcS_ok {sy : Sy} {P : Program} {G : Nat} {ks : List Known} {l : List Sum} (hk : ∀ p ∈ ks, KnownOk P p) (hs : ∀ s ∈ l, SumOk sy P G s) : OrcSOk sy P G (orcS ks l) := by
  intro f g hg args st r hr B w0 ρ args' w hargs hw
  unfold orcS at hg
  cases hb : someK f ks || someS f l with
  | false => rw [hb] at hg; cases hg
  | true =>
    rw [hb] at hg
    cases hg
    simp only at hr
    cases hf : findK f args ks with
    | some v =>
      rw [hf] at hr
      cases hr
      obtain ⟨p, hp, rfl, rfl, rfl⟩ := findK_spec ks hf
      exact ⟨rfl, (hk p hp sy ρ args' w hargs).mono fun e w' ⟨v', he, hr, hb⟩ => ⟨ρ, v', he, Ren.le_refl _, hr, hw.grown hb⟩⟩
    | none =>
      rw [hf] at hr
      rcases findS_spec l hr with ⟨n, rfl⟩ | ⟨p, hp, rfl, ha, hl, rfl⟩
      · trivial
      · obtain ⟨pf, pa, ⟨h0, n0, d0⟩, pr⟩ := p
        obtain ⟨h, n, d⟩ := st
        have hc := hs _ hp (B.beside ρ h h0) w ρ args' w (leVs_rel ha hargs) (hw.beside hl)
        cases pr with
        | err k => trivial
        | ok v s =>
          obtain ⟨h1, n1, d1⟩ := s
          exact ⟨rfl, hc.mono fun e w' ⟨ρ', v', q1, q2, q3, q4⟩ => ⟨ρ', v', q1, q2, q3, hw.merged hl q2 q4⟩⟩
        | pan v s =>
          obtain ⟨h1, n1, d1⟩ := s
          exact ⟨rfl, hc.mono fun e w' ⟨ρ', v', q1, q2, q3, q4⟩ => ⟨ρ', v', q1, q2, q3, hw.merged hl q2 q4⟩⟩
theorem callS_all {sy : Sy} {P : Program} {G : Nat} {hint : Nat → List Nat} {ks : List Known} {l : List Sum} (hm : P.follows .mixedOrders = true) (hk : ∀ p ∈ ks, KnownOk P p) (hs : ∀ s ∈ l, SumOk sy P G s) (n : Nat) :
    ∀ B w0, CallerSound sy G B w0 P (runS P G hint (orcS ks l) n) := runS_ok (fun _ _ => draw_ok hm) hint (orcS_ok hk hs) n
end Go.Proofs.YtbmbjaogcmokoaaGreatDoorX
