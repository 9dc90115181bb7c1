/- ParseDeep: 16 messages. -/
import Derived.Test.YtbmbjaogcmokoaaGreatDoorDeepB16
import Derived.KernelRfl
namespace Go.Proofs.YtbmbjaogcmokoaaGreatDoor
open Go.Proofs.YtbmbjaogcmokoaaGreatDoorX
set_option maxRecDepth 100000 in
theorem deep_c16 (sy : Sy) : DeepFin sy (((deepL.drop 9).drop 7).drop 5) deepF16 deepT16 := finT_last mixed (pr_all16 sy) (by kernel_rfl)
set_option maxRecDepth 100000 in
theorem deep_b16 (sy : Sy) : DeepFin sy ((deepL.drop 9).drop 7) deepE16 deepS16 := finT_step mixed (plain_all sy) 5 (by kernel_rfl) (deep_c16 sy)
set_option maxRecDepth 100000 in
theorem deep_16 (sy : Sy) : DeepFin sy (deepL.drop 9) (deepEnv 16) st0 := finT_step mixed (worked_all sy) 7 (by kernel_rfl) (deep_b16 sy)
end Go.Proofs.YtbmbjaogcmokoaaGreatDoor
