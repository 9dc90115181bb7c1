/- ParseDeep: 25 to 28 messages: refused. -/
import Derived.Test.YtbmbjaogcmokoaaGreatDoorDeep
import Derived.KernelRfl
namespace Go.Proofs.YtbmbjaogcmokoaaGreatDoor
open Go.Proofs.YtbmbjaogcmokoaaGreatDoorX
set_option maxRecDepth 100000 in
theorem deep_25 (sy : Sy) : DeepFin sy (deepL.drop 9) (deepEnv 25) st0 := @from_finT sy Tryz.prog 17 parseHint 4 Tryz.f4 _ _ _ (orcL [worked]) 1000 mixed worked_orc (from_last mixed worked_orc (by kernel_rfl))
set_option maxRecDepth 100000 in
theorem deep_26 (sy : Sy) : DeepFin sy (deepL.drop 9) (deepEnv 26) st0 := @from_finT sy Tryz.prog 17 parseHint 4 Tryz.f4 _ _ _ (orcL [worked]) 1000 mixed worked_orc (from_last mixed worked_orc (by kernel_rfl))
set_option maxRecDepth 100000 in
theorem deep_27 (sy : Sy) : DeepFin sy (deepL.drop 9) (deepEnv 27) st0 := @from_finT sy Tryz.prog 17 parseHint 4 Tryz.f4 _ _ _ (orcL [worked]) 1000 mixed worked_orc (from_last mixed worked_orc (by kernel_rfl))
set_option maxRecDepth 100000 in
theorem deep_28 (sy : Sy) : DeepFin sy (deepL.drop 9) (deepEnv 28) st0 := @from_finT sy Tryz.prog 17 parseHint 4 Tryz.f4 _ _ _ (orcL [worked]) 1000 mixed worked_orc (from_last mixed worked_orc (by kernel_rfl))
end Go.Proofs.YtbmbjaogcmokoaaGreatDoor
