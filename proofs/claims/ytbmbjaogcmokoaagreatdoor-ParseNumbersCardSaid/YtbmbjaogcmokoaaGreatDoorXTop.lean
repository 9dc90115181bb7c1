/- A closed law whose run says true returns true. -/
import Derived.Test.YtbmbjaogcmokoaaGreatDoorXDraw4
import Derived.Test.YtbmbjaogcmokoaaGreatDoorXOracle
namespace Go.Proofs.YtbmbjaogcmokoaaGreatDoorX
open Go Go.RowKit
set_option linter.unusedVariables false

noncomputable def saysTrue (x : RV) : Bool :=
  match x with
  | .ok (.bool true) _ => true
  | _ => false

def ren0 (G : Nat) : Ren := fun g => if g < G then some ⟨g, 0, 0, 0⟩ else none

theorem wrel0 (sy : Sy) (hro : ∀ k, ¬ sy.ro k) (G : Nat) (w : World) : WRel sy G ⟨fun k => k < w.heap.size, fun _ => False⟩ w (ren0 G) ⟨.nil, G, []⟩ w where
  below := ⟨rfl, rfl, rfl, Nat.le_refl _, fun _ _ => rfl⟩
  base := fun _ h => h
  ro := fun k h => absurd h (hro k)
  gone := fun _ h => h.elim
  glob := fun g hg => ⟨⟨g, 0, 0, 0⟩, by simp [ren0, hg], rfl, rfl⟩
  dom := fun b i h => by
    unfold ren0 at h
    split at h
    · assumption
    · cases h
  obj := fun b o h => by cases h
  inj := fun b1 b2 o1 o2 i1 i2 h => by cases h

/-- The run's answer at the start says 'true': so does every run of the model's. -/
theorem law_true {P : Program} {G : Nat} {hint : Nat → List Nat} {n f : Nat} (hm : P.follows .mixedOrders = true) (he : enters P f = true) (h : saysTrue (run P G hint n f [] ⟨.nil, G, []⟩) = true) (w : World) :
    Calls P f #[] w fun e w' => e = .returned (.bool true) ∧ Below w.heap.size w w' := by
  have hr := run_ok (sy := ⟨fun _ => default, fun _ => False⟩) (G := G) (fun _ _ => draw_ok hm) hint n ⟨fun k => k < w.heap.size, fun _ => False⟩ w f [] ⟨.nil, G, []⟩ (ren0 G) w [] (by simp [VRels]) (wrel0 _ (fun _ h => h) G w) he
  generalize run P G hint n f [] ⟨.nil, G, []⟩ = x at h hr
  cases x with
  | err k => cases h
  | pan v s => cases h
  | ok v s =>
    have hv : v = .bool true := by
      cases v <;> first | (rename_i b; cases b <;> first | rfl | cases h) | cases h
    subst hv
    refine hr.2.mono fun e w' ⟨ρ', v', he, _, hv', hw⟩ => ?_
    simp only [VRel] at hv'
    subst hv'
    exact ⟨he, ⟨hw.below.os, hw.below.tape, hw.below.output, hw.below.size, hw.below.block⟩⟩
/-- The same, with answers that are known. -/
theorem law_trueO {P : Program} {G : Nat} {hint : Nat → List Nat} {orc : Orc} {n f : Nat} (hm : P.follows .mixedOrders = true) (ho : OrcOk P orc) (he : enters P f = true) (h : saysTrue (runO P G hint orc n f [] ⟨.nil, G, []⟩) = true) (w : World) :
    Calls P f #[] w fun e w' => e = .returned (.bool true) ∧ Below w.heap.size w w' := by
  have hr := runO_ok (sy := ⟨fun _ => default, fun _ => False⟩) (G := G) (fun _ _ => draw_ok hm) hint ho n ⟨fun k => k < w.heap.size, fun _ => False⟩ w f [] ⟨.nil, G, []⟩ (ren0 G) w [] (by simp [VRels]) (wrel0 _ (fun _ h => h) G w) he
  generalize runO P G hint orc n f [] ⟨.nil, G, []⟩ = x at h hr
  cases x with
  | err k => cases h
  | pan v s => cases h
  | ok v s =>
    have hv : v = .bool true := by
      cases v <;> first | (rename_i b; cases b <;> first | rfl | cases h) | cases h
    subst hv
    refine hr.2.mono fun e w' ⟨ρ', v', he, _, hv', hw⟩ => ?_
    simp only [VRel] at hv'
    subst hv'
    exact ⟨he, ⟨hw.below.os, hw.below.tape, hw.below.output, hw.below.size, hw.below.block⟩⟩

/-! ## Answers that are known -/
mutual
theorem VRel.plain {sy sy' : Sy} {ρ ρ' : Ren} : ∀ (x : CV) (v : Value), plainV x = true → VRel sy ρ x v → VRel sy' ρ' x v
  | .unk, _, h, _ => by simp [plainV] at h
  | .bool b, _, _, k => by simpa [VRel] using k
  | .int _ _, _, _, k => by simpa [VRel] using k
  | .float _ _, _, _, k => by simpa [VRel] using k
  | .str _ _, _, _, k => by simpa [VRel] using k
  | .sym _ _, _, h, _ => by simp [plainV] at h
  | .slen _, _, h, _ => by simp [plainV] at h
  | .smod _, _, h, _ => by simp [plainV] at h
  | .ptr b o, _, h, _ => by simp [plainV] at h
  | .nilp, _, _, k => by simpa [VRel] using k
  | .slice _ _ _ _ _, _, h, _ => by simp [plainV] at h
  | .nils, _, _, k => by simpa [VRel] using k
  | .map _, _, h, _ => by simp [plainV] at h
  | .nilm, _, _, k => by simpa [VRel] using k
  | .func _ _ _, _, h, _ => by simp [plainV] at h
  | .nilf, _, _, k => by simpa [VRel] using k
  | .iface _ x, _, h, k => by
    simp only [plainV] at h
    simp only [VRel] at *
    obtain ⟨x', e, hx⟩ := k
    exact ⟨x', e, VRel.plain x x' h hx⟩
  | .nili, _, _, k => by simpa [VRel] using k
  | .agg l, _, h, k => by
    simp only [plainV] at h
    simp only [VRel] at *
    obtain ⟨l', e, hx⟩ := k
    exact ⟨l', e, VRels.plain l l' h hx⟩
  | .tup l, _, h, k => by
    simp only [plainV] at h
    simp only [VRel] at *
    obtain ⟨l', e, hx⟩ := k
    exact ⟨l', e, VRels.plain l l' h hx⟩
theorem VRels.plain {sy sy' : Sy} {ρ ρ' : Ren} : ∀ (l : List CV) (l' : List Value), plainVs l = true → VRels sy ρ l l' → VRels sy' ρ' l l'
  | [], _, _, k => by simpa [VRels] using k
  | x :: r, _, h, k => by
    simp only [plainVs, Bool.and_eq_true] at h
    simp only [VRels] at *
    obtain ⟨y, s, e, hx, hr⟩ := k
    exact ⟨y, s, e, VRel.plain x y h.1 hx, VRels.plain r s h.2 hr⟩
end

def KnownOk (P : Program) (p : Known) : Prop := ∀ (sy : Sy) (ρ : Ren) (args' : List Value) (w : World), VRels sy ρ p.args args' →
  Calls P p.fn args'.toArray w fun e w' => ∃ v', e = .returned v' ∧ VRel sy ρ p.val v' ∧ Below w.heap.size w w'
theorem known_of_run {P : Program} {G : Nat} {hint : Nat → List Nat} {orc : Orc} {n : Nat} (hm : P.follows .mixedOrders = true) (ho : OrcOk P orc) {p : Known} (he : enters P p.fn = true) (ha : plainVs p.args = true) (hv : plainV p.val = true)
    (h : saysV p.val (runO P G hint orc n p.fn p.args ⟨.nil, G, []⟩) = true) : KnownOk P p := by
  intro sy ρ args' w hargs
  have hr := runO_ok (sy := ⟨fun _ => default, fun _ => False⟩) (G := G) (fun _ _ => draw_ok hm) hint ho n ⟨fun k => k < w.heap.size, fun _ => False⟩ w p.fn p.args ⟨.nil, G, []⟩ (ren0 G) w args' (hargs.plain _ _ ha) (wrel0 _ (fun _ h => h) G w) he
  generalize runO P G hint orc n p.fn p.args ⟨.nil, G, []⟩ = x at h hr
  cases x with
  | err k => cases h
  | pan v s => cases h
  | ok v s =>
    have e1 : v = p.val := eqCV_eq _ _ h
    subst e1
    refine hr.2.mono fun e w' ⟨ρ', v', he, _, hv', hw⟩ => ⟨v', he, hv'.plain _ _ hv, ⟨hw.below.os, hw.below.tape, hw.below.output, hw.below.size, hw.below.block⟩⟩
theorem findK_spec {f : Nat} {args : List CV} {v : CV} : ∀ (l : List Known), findK f args l = some v → ∃ p ∈ l, p.fn = f ∧ args = p.args ∧ p.val = v
  | [], h => by cases h
  | ⟨g, as, u⟩ :: r, h => by
    unfold findK at h
    simp only at h
    cases hb : Nat.beq g f && eqCVs args as with
    | true =>
      rw [hb] at h
      cases h
      rw [Bool.and_eq_true] at hb
      exact ⟨⟨g, as, v⟩, by simp, Nat.eq_of_beq_eq_true hb.1, eqCVs_eq _ _ hb.2, rfl⟩
    | false =>
      rw [hb] at h
      obtain ⟨p, hp, k⟩ := findK_spec r h
      exact ⟨p, by simp [hp], k⟩
theorem orcL_ok {P : Program} {l : List Known} (h : ∀ p ∈ l, KnownOk P p) : OrcOk P (orcL l) := by
  intro f g hg args v hv sy ρ args' w hargs
  unfold orcL at hg
  cases hs : someK f l with
  | false => rw [hs] at hg; cases hg
  | true =>
    rw [hs] at hg
    cases hg
    obtain ⟨p, hp, rfl, rfl, rfl⟩ := findK_spec l hv
    exact h p hp sy ρ args' w hargs
theorem orcL_nil {P : Program} : OrcOk P (orcL []) := orcL_ok (fun _ h => by cases h)
end Go.Proofs.YtbmbjaogcmokoaaGreatDoorX
