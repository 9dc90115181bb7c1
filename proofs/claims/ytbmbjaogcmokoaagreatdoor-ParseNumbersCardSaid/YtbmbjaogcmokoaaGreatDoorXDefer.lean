/- Operations: calls that are put off. -/
import Derived.Test.YtbmbjaogcmokoaaGreatDoorXUnsafe
namespace Go.Proofs.YtbmbjaogcmokoaaGreatDoorX
open Go Go.RowKit
set_option linter.unusedVariables false

section
variable {sy : Sy} {G : Nat} {B : Kp} {w0 : World} {P : Program} {ρ ρ' : Ren} {cx : Cx} {env : List CV} {loc : Loc} {a : Act} {st st' : St} {w w' : World} {o : Oper} {call : Caller}

theorem defer_ok {c : Call} (ho : o.op = .defer c) (hs : SR sy G cx ρ env loc a) (hd : DRel sy ρ st.dfs a.defers) (hw : WRel sy G B w0 ρ st w) :
    OpRes sy G B w0 P ρ a o w ((oDefer cx c).f call env loc st) := by
  unfold oDefer
  cases hc : c.callee with
  | builtin b => exact trivial
  | invoke r m => exact trivial
  | value f =>
    have hf := evRel hs hw f
    have hargs := evsRel hs hw c.args.toList
    simp only
    generalize (ev cx f).f env loc = vf at *
    cases vf <;> try exact trivial
    rename_i fn fi ca
    simp only
    cases fn <;> try exact trivial
    rename_i g
    obtain ⟨h, n, d⟩ := st
    simp only
    simp only [VRel] at hf
    obtain ⟨fi', ca', e, h1, h2⟩ := hf
    intro next Q hk
    unfold Oper.wp
    have hrun : (execOp a.eval o).run P w = .ok (.defer { target := .fn (.func g) (List.toArray ca'), args := List.toArray fi' ++ List.toArray (c.args.toList.map a.eval) }) w := by
      simp only [execOp, ho, resolve, hc, Sem.run_bind, Result.andThen, e, Deferred.ofValue, Sem.run_pure]
      congr 3
      rw [show Array.map a.eval c.args = (List.map a.eval c.args.toList).toArray from Array.toList_inj.1 (by simp)]
    rw [hrun]
    refine hk ρ undef w _ (Ren.le_refl _) (by simp only [VRel]; exact ⟨[], rfl, VRels.nil⟩) hw.dfs ?_
    simp only [DRel]
    exact ⟨_, _, rfl, .inr ⟨g, fi, ca, fi', ca', _, rfl, h1, h2, hargs, rfl⟩, hd⟩
end
end Go.Proofs.YtbmbjaogcmokoaaGreatDoorX
