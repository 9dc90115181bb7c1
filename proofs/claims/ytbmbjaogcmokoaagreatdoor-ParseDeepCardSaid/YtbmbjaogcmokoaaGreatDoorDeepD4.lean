/- ParseDeep: 29 to 32 messages: refused. -/
import Derived.Test.YtbmbjaogcmokoaaGreatDoorDeep
import Derived.KernelRfl
namespace Go.Proofs.YtbmbjaogcmokoaaGreatDoor
open Go.Proofs.YtbmbjaogcmokoaaGreatDoorX
set_option maxRecDepth 100000 in
theorem deep_29 (sy : Sy) : DeepFin sy (deepL.drop 9) (deepEnv 29) st0 := @from_finT sy Tryz.prog 17 parseHint 4 Tryz.f4 _ _ _ (orcL [worked]) 1000 mixed worked_orc (from_last mixed worked_orc (by kernel_rfl))
set_option maxRecDepth 100000 in
theorem deep_30 (sy : Sy) : DeepFin sy (deepL.drop 9) (deepEnv 30) st0 := @from_finT sy Tryz.prog 17 parseHint 4 Tryz.f4 _ _ _ (orcL [worked]) 1000 mixed worked_orc (from_last mixed worked_orc (by kernel_rfl))
set_option maxRecDepth 100000 in
theorem deep_31 (sy : Sy) : DeepFin sy (deepL.drop 9) (deepEnv 31) st0 := @from_finT sy Tryz.prog 17 parseHint 4 Tryz.f4 _ _ _ (orcL [worked]) 1000 mixed worked_orc (from_last mixed worked_orc (by kernel_rfl))
set_option maxRecDepth 100000 in
theorem deep_32 (sy : Sy) : DeepFin sy (deepL.drop 9) (deepEnv 32) st0 := @from_finT sy Tryz.prog 17 parseHint 4 Tryz.f4 _ _ _ (orcL [worked]) 1000 mixed worked_orc (from_last mixed worked_orc (by kernel_rfl))
end Go.Proofs.YtbmbjaogcmokoaaGreatDoor
