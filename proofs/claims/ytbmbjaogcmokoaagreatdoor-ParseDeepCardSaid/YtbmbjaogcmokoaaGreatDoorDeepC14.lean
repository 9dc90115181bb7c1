/- ParseDeep: 14 messages. -/
import Derived.Test.YtbmbjaogcmokoaaGreatDoorDeepB14
import Derived.KernelRfl
namespace Go.Proofs.YtbmbjaogcmokoaaGreatDoor
open Go.Proofs.YtbmbjaogcmokoaaGreatDoorX
set_option maxRecDepth 100000 in
theorem deep_c14 (sy : Sy) : DeepFin sy (((deepL.drop 9).drop 7).drop 5) deepF14 deepT14 := finT_last mixed (pr_all14 sy) (by kernel_rfl)
set_option maxRecDepth 100000 in
theorem deep_b14 (sy : Sy) : DeepFin sy ((deepL.drop 9).drop 7) deepE14 deepS14 := finT_step mixed (plain_all sy) 5 (by kernel_rfl) (deep_c14 sy)
set_option maxRecDepth 100000 in
theorem deep_14 (sy : Sy) : DeepFin sy (deepL.drop 9) (deepEnv 14) st0 := finT_step mixed (worked_all sy) 7 (by kernel_rfl) (deep_b14 sy)
end Go.Proofs.YtbmbjaogcmokoaaGreatDoor
