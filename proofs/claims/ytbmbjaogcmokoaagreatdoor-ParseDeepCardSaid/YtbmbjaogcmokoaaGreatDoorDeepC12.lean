/- ParseDeep: 12 messages. -/
import Derived.Test.YtbmbjaogcmokoaaGreatDoorDeepB12
import Derived.KernelRfl
namespace Go.Proofs.YtbmbjaogcmokoaaGreatDoor
open Go.Proofs.YtbmbjaogcmokoaaGreatDoorX
set_option maxRecDepth 100000 in
theorem deep_c12 (sy : Sy) : DeepFin sy (((deepL.drop 9).drop 7).drop 5) deepF12 deepT12 := finT_last mixed (pr_all12 sy) (by kernel_rfl)
set_option maxRecDepth 100000 in
theorem deep_b12 (sy : Sy) : DeepFin sy ((deepL.drop 9).drop 7) deepE12 deepS12 := finT_step mixed (plain_all sy) 5 (by kernel_rfl) (deep_c12 sy)
set_option maxRecDepth 100000 in
theorem deep_12 (sy : Sy) : DeepFin sy (deepL.drop 9) (deepEnv 12) st0 := finT_step mixed (worked_all sy) 7 (by kernel_rfl) (deep_b12 sy)
end Go.Proofs.YtbmbjaogcmokoaaGreatDoor
