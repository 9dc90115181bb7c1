/- ParseDeep: 21 to 24 messages: refused. -/
import Derived.Test.YtbmbjaogcmokoaaGreatDoorDeep
import Derived.KernelRfl
namespace Go.Proofs.YtbmbjaogcmokoaaGreatDoor
open Go.Proofs.YtbmbjaogcmokoaaGreatDoorX
set_option maxRecDepth 100000 in
theorem deep_21 (sy : Sy) : DeepFin sy (deepL.drop 9) (deepEnv 21) st0 := @from_finT sy Tryz.prog 17 parseHint 4 Tryz.f4 _ _ _ (orcL [worked]) 1000 mixed worked_orc (from_last mixed worked_orc (by kernel_rfl))
set_option maxRecDepth 100000 in
theorem deep_22 (sy : Sy) : DeepFin sy (deepL.drop 9) (deepEnv 22) st0 := @from_finT sy Tryz.prog 17 parseHint 4 Tryz.f4 _ _ _ (orcL [worked]) 1000 mixed worked_orc (from_last mixed worked_orc (by kernel_rfl))
set_option maxRecDepth 100000 in
theorem deep_23 (sy : Sy) : DeepFin sy (deepL.drop 9) (deepEnv 23) st0 := @from_finT sy Tryz.prog 17 parseHint 4 Tryz.f4 _ _ _ (orcL [worked]) 1000 mixed worked_orc (from_last mixed worked_orc (by kernel_rfl))
set_option maxRecDepth 100000 in
theorem deep_24 (sy : Sy) : DeepFin sy (deepL.drop 9) (deepEnv 24) st0 := @from_finT sy Tryz.prog 17 parseHint 4 Tryz.f4 _ _ _ (orcL [worked]) 1000 mixed worked_orc (from_last mixed worked_orc (by kernel_rfl))
end Go.Proofs.YtbmbjaogcmokoaaGreatDoor
