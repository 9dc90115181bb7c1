/- ParseDeep: 15 messages. -/
import Derived.Test.YtbmbjaogcmokoaaGreatDoorDeepB15
import Derived.KernelRfl
namespace Go.Proofs.YtbmbjaogcmokoaaGreatDoor
open Go.Proofs.YtbmbjaogcmokoaaGreatDoorX
set_option maxRecDepth 100000 in
theorem deep_c15 (sy : Sy) : DeepFin sy (((deepL.drop 9).drop 7).drop 5) deepF15 deepT15 := finT_last mixed (pr_all15 sy) (by kernel_rfl)
set_option maxRecDepth 100000 in
theorem deep_b15 (sy : Sy) : DeepFin sy ((deepL.drop 9).drop 7) deepE15 deepS15 := finT_step mixed (plain_all sy) 5 (by kernel_rfl) (deep_c15 sy)
set_option maxRecDepth 100000 in
theorem deep_15 (sy : Sy) : DeepFin sy (deepL.drop 9) (deepEnv 15) st0 := finT_step mixed (worked_all sy) 7 (by kernel_rfl) (deep_b15 sy)
end Go.Proofs.YtbmbjaogcmokoaaGreatDoor
