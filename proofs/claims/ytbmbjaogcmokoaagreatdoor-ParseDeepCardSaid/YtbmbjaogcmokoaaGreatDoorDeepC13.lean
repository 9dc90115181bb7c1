/- ParseDeep: 13 messages. -/
import Derived.Test.YtbmbjaogcmokoaaGreatDoorDeepB13
import Derived.KernelRfl
namespace Go.Proofs.YtbmbjaogcmokoaaGreatDoor
open Go.Proofs.YtbmbjaogcmokoaaGreatDoorX
set_option maxRecDepth 100000 in
theorem deep_c13 (sy : Sy) : DeepFin sy (((deepL.drop 9).drop 7).drop 5) deepF13 deepT13 := finT_last mixed (pr_all13 sy) (by kernel_rfl)
set_option maxRecDepth 100000 in
theorem deep_b13 (sy : Sy) : DeepFin sy ((deepL.drop 9).drop 7) deepE13 deepS13 := finT_step mixed (plain_all sy) 5 (by kernel_rfl) (deep_c13 sy)
set_option maxRecDepth 100000 in
theorem deep_13 (sy : Sy) : DeepFin sy (deepL.drop 9) (deepEnv 13) st0 := finT_step mixed (worked_all sy) 7 (by kernel_rfl) (deep_b13 sy)
end Go.Proofs.YtbmbjaogcmokoaaGreatDoor
