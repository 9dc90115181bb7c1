/- ParseDeep: 17 to 20 messages: refused. -/
import Derived.Test.YtbmbjaogcmokoaaGreatDoorDeep
import Derived.KernelRfl
namespace Go.Proofs.YtbmbjaogcmokoaaGreatDoor
open Go.Proofs.YtbmbjaogcmokoaaGreatDoorX
set_option maxRecDepth 100000 in
theorem deep_17 (sy : Sy) : DeepFin sy (deepL.drop 9) (deepEnv 17) st0 := @from_finT sy Tryz.prog 17 parseHint 4 Tryz.f4 _ _ _ (orcL [worked]) 1000 mixed worked_orc (from_last mixed worked_orc (by kernel_rfl))
set_option maxRecDepth 100000 in
theorem deep_18 (sy : Sy) : DeepFin sy (deepL.drop 9) (deepEnv 18) st0 := @from_finT sy Tryz.prog 17 parseHint 4 Tryz.f4 _ _ _ (orcL [worked]) 1000 mixed worked_orc (from_last mixed worked_orc (by kernel_rfl))
set_option maxRecDepth 100000 in
theorem deep_19 (sy : Sy) : DeepFin sy (deepL.drop 9) (deepEnv 19) st0 := @from_finT sy Tryz.prog 17 parseHint 4 Tryz.f4 _ _ _ (orcL [worked]) 1000 mixed worked_orc (from_last mixed worked_orc (by kernel_rfl))
set_option maxRecDepth 100000 in
theorem deep_20 (sy : Sy) : DeepFin sy (deepL.drop 9) (deepEnv 20) st0 := @from_finT sy Tryz.prog 17 parseHint 4 Tryz.f4 _ _ _ (orcL [worked]) 1000 mixed worked_orc (from_last mixed worked_orc (by kernel_rfl))
end Go.Proofs.YtbmbjaogcmokoaaGreatDoor
