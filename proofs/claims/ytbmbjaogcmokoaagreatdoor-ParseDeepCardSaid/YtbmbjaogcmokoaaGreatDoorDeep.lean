/- ParseDeep: its code, what stands ahead of the runs. -/
import Derived.Test.YtbmbjaogcmokoaaGreatDoorParts
import Derived.Test.YtbmbjaogcmokoaaGreatDoorX9
import Derived.KernelRfl
namespace Go.Proofs.YtbmbjaogcmokoaaGreatDoor
open Go.Proofs.YtbmbjaogcmokoaaGreatDoorX
def deepEnv (n : Nat) : List CV := [.int .i64 (Int.ofNat n), .bool false, .bool true, .unk, .unk, .unk, .unk, .unk, .unk, .sym 0 false, .unk, .unk, .unk, .unk, .unk, .unk, .unk, .unk, .unk, .unk, .unk, .unk, .unk, .unk]
noncomputable def deepC : Code := Tryz.f4.body.getD .skip
noncomputable def deepL : List Code := flat deepC
def st0 : St := ⟨.nil, 17, []⟩
abbrev DeepFrom (sy : Sy) (l : List Code) (E : List CV) (st : St) : Prop := From sy Tryz.prog 17 parseHint (orcL [worked]) 1000 4 Tryz.f4 l E st
noncomputable def deepHead (r : Int) : R := (denL Tryz.prog ⟨parseHint 4, Tryz.f4.ntmps, 17⟩ (deepL.take 9)).f (runO Tryz.prog 17 parseHint (orcL [worked]) 1000) (initEnv (parseHint 4) [.smod r, .sym 0 false]) st0
noncomputable def headsOk : Bool := (List.range 40).all fun i => partSD (deepEnv (i + 1)) st0 (deepHead (Int.ofNat i)) && partSD (deepEnv (i + 1)) st0 (deepHead (-(Int.ofNat i)))
set_option maxRecDepth 100000 in
theorem heads_ok : headsOk = true := by kernel_rfl
abbrev DeepFin (sy : Sy) (l : List Code) (E : List CV) (st : St) : Prop := FinT sy Tryz.prog 17 parseHint 4 Tryz.f4 l E st
noncomputable def prC : Code := Tryz.f7.body.getD .skip
noncomputable def prL : List Code := flat prC
noncomputable def mesC : Code := Tryz.f55.body.getD .skip
theorem all_one {α : Type} {p : α → Prop} {a : α} (h : p a) : ∀ x ∈ [a], p x := fun _ hx => (List.mem_singleton.1 hx).symm ▸ h
theorem all_none {α : Type} {p : α → Prop} : ∀ x ∈ ([] : List α), p x := fun _ hx => by cases hx
theorem plain_all (sy : Sy) : ∀ (B : Kp) (w0 : World), CallerSound sy 17 B w0 Tryz.prog (runO Tryz.prog 17 parseHint (orcL []) 1000) := @callO_all sy Tryz.prog 17 parseHint (orcL []) mixed orcL_nil 1000
theorem worked_all (sy : Sy) : ∀ (B : Kp) (w0 : World), CallerSound sy 17 B w0 Tryz.prog (runO Tryz.prog 17 parseHint (orcL [worked]) 1000) := @callO_all sy Tryz.prog 17 parseHint (orcL [worked]) mixed worked_orc 1000
theorem sums_all (sy : Sy) (ks : List Known) (l : List Sum) (hk : ∀ p ∈ ks, KnownOk Tryz.prog p) (hs : ∀ s ∈ l, SumOk sy Tryz.prog 17 s) : ∀ (B : Kp) (w0 : World), CallerSound sy 17 B w0 Tryz.prog (runS Tryz.prog 17 parseHint (orcS ks l) 1000) :=
  @callS_all sy Tryz.prog 17 parseHint ks l mixed hk hs 1000
end Go.Proofs.YtbmbjaogcmokoaaGreatDoor
