/- ParseDeep: 33 to 36 messages: refused. -/
import Derived.Test.YtbmbjaogcmokoaaGreatDoorDeep
import Derived.KernelRfl
namespace Go.Proofs.YtbmbjaogcmokoaaGreatDoor
open Go.Proofs.YtbmbjaogcmokoaaGreatDoorX
set_option maxRecDepth 100000 in
theorem deep_33 (sy : Sy) : DeepFin sy (deepL.drop 9) (deepEnv 33) st0 := @from_finT sy Tryz.prog 17 parseHint 4 Tryz.f4 _ _ _ (orcL [worked]) 1000 mixed worked_orc (from_last mixed worked_orc (by kernel_rfl))
set_option maxRecDepth 100000 in
theorem deep_34 (sy : Sy) : DeepFin sy (deepL.drop 9) (deepEnv 34) st0 := @from_finT sy Tryz.prog 17 parseHint 4 Tryz.f4 _ _ _ (orcL [worked]) 1000 mixed worked_orc (from_last mixed worked_orc (by kernel_rfl))
set_option maxRecDepth 100000 in
theorem deep_35 (sy : Sy) : DeepFin sy (deepL.drop 9) (deepEnv 35) st0 := @from_finT sy Tryz.prog 17 parseHint 4 Tryz.f4 _ _ _ (orcL [worked]) 1000 mixed worked_orc (from_last mixed worked_orc (by kernel_rfl))
set_option maxRecDepth 100000 in
theorem deep_36 (sy : Sy) : DeepFin sy (deepL.drop 9) (deepEnv 36) st0 := @from_finT sy Tryz.prog 17 parseHint 4 Tryz.f4 _ _ _ (orcL [worked]) 1000 mixed worked_orc (from_last mixed worked_orc (by kernel_rfl))
end Go.Proofs.YtbmbjaogcmokoaaGreatDoor
